/- Calls of functions of this seat's program: what the base package computes, when evidence and sets are valid. No condition. -/
import Derived.Test.YtidmekdkfiljjaaGreatK24
import Derived.Test.YtidmekdkfiljjaaGreatK25
import Derived.Shelf.Sort.Plain
namespace Go.Proofs.YtidmekdkfiljjaaGreat
open Go Go.Abs
set_option linter.unusedSimpArgs false
set_option linter.unusedVariables false
set_option maxRecDepth 20000
theorem hm : Tryz.prog.follows .mixedOrders = true := by kernel_rfl

theorem getD_gext {α : Type} (d : α) {xs ys : List α} (h : xs.length = ys.length) (k : ∀ j, j < xs.length → xs.getD j d = ys.getD j d) : xs = ys :=
  List.ext_getElem h fun j h1 h2 => by have := k j h1; simpa [List.getD, h1, h2] using this
theorem r_base_Ints (nl1 nl2 : Bool) (xs ys : List Int) (tl1 tl2 : Tail) (h : AH) :
    RCall Tryz.prog n_base_Ints [.sl nl1 xs.length (i64s xs) tl1, .sl nl2 ys.length (i64s ys) tl2] h (.bool (decide (xs = ys))) := by
  refine RCall.of hm cF_base_Ints (by simp [g_base_Ints]) fun hw h' _ => ?_
  have hx := wf_len (hw _ (.head _))
  simp only [F_base_Ints, g_base_Ints, go_sem, ↓tq_n, ↓tq_e, ↓tq_r, ↓bq_n, ↓bq_e, ↓bq_r, ↓rq_n, ↓rq_r, ↓rq_e]
  refine ⟨fun hne => ?_, fun heq => ?_⟩
  · have : xs ≠ ys := fun hh => by subst hh; exact hne rfl
    exact ret_ok (by simp [this])
  have hl : xs.length = ys.length := by omega
  refine awp_loop (fun i : Nat => [(0, .sl nl1 xs.length (i64s xs) tl1), (1, .sl nl2 ys.length (i64s ys) tl2), (5, I i)]) (fun _ => h') (fun i => i ≤ xs.length ∧ ∀ j, j < i → xs.getD j 0 = ys.getD j 0) (fun i => xs.length - i) 0 ⟨by omega, by omega⟩ (GStep.forget (by repeat' first | exact EnvLe.nil _ | refine EnvLe.cons (AV.le.of_eq rfl) ?_ | refine EnvLe.cons (AV.le.undef _) ?_ | refine EnvLe.cons AV.le.unk ?_) (by repeat' first | exact AH.le.refl _ | assumption | (refine AH.le_put ?_ (by first | assumption | exact (AH.blk_put_ne _ _ (by assumption)).trans (by assumption) | exact AH.none_put (by assumption) | exact AH.none_put (AH.none_put (by assumption)) | (simp only [AH.blk_setTok, AH.tok_put] at *; first | assumption | exact AH.none_put (by assumption)))) | (refine AH.le_setTok ?_ (by first | assumption | exact (AH.blk_put_ne _ _ (by assumption)).trans (by assumption) | exact AH.none_put (by assumption) | exact AH.none_put (AH.none_put (by assumption)) | (simp only [AH.blk_setTok, AH.tok_put] at *; first | assumption | exact AH.none_put (by assumption)))) | (refine AH.le_putM ?_ (by first | assumption | exact (AH.mp_putM_ne _ _ (by assumption)).trans (by assumption) | (simp only [AH.mp_put, AH.mp_setTok] at *; assumption))))) fun i hi => .of_vg hm ?_
  obtain ⟨h1, h2⟩ := hi
  by_cases hc : i < xs.length
  · have hc1 : (i : Int) < (xs.length : Int) := by omega
    have hc2 : (i : Int) < (ys.length : Int) := by omega
    simp only [hc1, hc2, i64s_drop hc, i64s_drop (show i < ys.length by omega), F_base_Ints, g_base_Ints, go_sem, ↓tq_n, ↓tq_e, ↓tq_r, ↓bq_n, ↓bq_e, ↓bq_r, ↓rq_n, ↓rq_r, ↓rq_e]
    refine ⟨fun hne => ?_, fun heq' => ?_⟩
    · have : xs ≠ ys := fun hh => by subst hh; exact hne rfl
      exact ret_ok (by simp [this])
    · exact ⟨by rw [inR64]; omega, i + 1, ⟨by omega, all_succ h2 heq'⟩, by omega, (GStep.forget (by repeat' first | exact EnvLe.nil _ | refine EnvLe.cons (AV.le.of_eq rfl) ?_ | refine EnvLe.cons (AV.le.undef _) ?_ | refine EnvLe.cons AV.le.unk ?_) (by repeat' first | exact AH.le.refl _ | assumption | (refine AH.le_put ?_ (by first | assumption | exact (AH.blk_put_ne _ _ (by assumption)).trans (by assumption) | exact AH.none_put (by assumption) | exact AH.none_put (AH.none_put (by assumption)) | (simp only [AH.blk_setTok, AH.tok_put] at *; first | assumption | exact AH.none_put (by assumption)))) | (refine AH.le_setTok ?_ (by first | assumption | exact (AH.blk_put_ne _ _ (by assumption)).trans (by assumption) | exact AH.none_put (by assumption) | exact AH.none_put (AH.none_put (by assumption)) | (simp only [AH.blk_setTok, AH.tok_put] at *; first | assumption | exact AH.none_put (by assumption)))) | (refine AH.le_putM ?_ (by first | assumption | exact (AH.mp_putM_ne _ _ (by assumption)).trans (by assumption) | (simp only [AH.mp_put, AH.mp_setTok] at *; assumption)))))⟩
  · have h3 : i = xs.length := by omega
    subst h3
    simp only [F_base_Ints, g_base_Ints, go_sem, ↓tq_n, ↓tq_e, ↓tq_r, ↓bq_n, ↓bq_e, ↓bq_r, ↓rq_n, ↓rq_r, ↓rq_e]
    have : xs = ys := getD_gext 0 hl h2
    exact ret_ok (by simp [this])
theorem r_base_Has (nl : Bool) (e : List Int) (tl : Tail) (v : Int) (h : AH) : RCall Tryz.prog n_base_Has [.sl nl e.length (i64s e) tl, I v] h (.bool (decide (v ∈ e))) := by
  refine RCall.of hm cF_base_Has (by simp [g_base_Has]) fun hw h' hl => ?_
  have hx := wf_len (hw _ (.head _))
  simp only [F_base_Has, g_base_Has, go_sem, ↓tq_n, ↓tq_e, ↓tq_r, ↓bq_n, ↓bq_e, ↓bq_r, ↓rq_n, ↓rq_r, ↓rq_e]
  refine awp_loop (fun i : Nat => [(0, .sl nl e.length (i64s e) tl), (1, I v), (5, I i)]) (fun _ => h') (fun i => i ≤ e.length ∧ ∀ j, j < i → e.getD j 0 ≠ v) (fun i => e.length - i) 0 ⟨Nat.zero_le _, fun j hj => absurd hj (Nat.not_lt_zero _)⟩ (GStep.forget (by repeat' first | exact EnvLe.nil _ | refine EnvLe.cons (AV.le.of_eq rfl) ?_ | refine EnvLe.cons (AV.le.undef _) ?_ | refine EnvLe.cons AV.le.unk ?_) (by repeat' first | exact AH.le.refl _ | assumption | (refine AH.le_put ?_ (by first | assumption | exact (AH.blk_put_ne _ _ (by assumption)).trans (by assumption) | exact AH.none_put (by assumption) | exact AH.none_put (AH.none_put (by assumption)) | (simp only [AH.blk_setTok, AH.tok_put] at *; first | assumption | exact AH.none_put (by assumption)))) | (refine AH.le_setTok ?_ (by first | assumption | exact (AH.blk_put_ne _ _ (by assumption)).trans (by assumption) | exact AH.none_put (by assumption) | exact AH.none_put (AH.none_put (by assumption)) | (simp only [AH.blk_setTok, AH.tok_put] at *; first | assumption | exact AH.none_put (by assumption)))) | (refine AH.le_putM ?_ (by first | assumption | exact (AH.mp_putM_ne _ _ (by assumption)).trans (by assumption) | (simp only [AH.mp_put, AH.mp_setTok] at *; assumption))))) fun i hi => .of_vg hm ?_
  obtain ⟨h1, h2⟩ := hi
  by_cases h3 : i < e.length
  · have hc : (i : Int) < (e.length : Int) := by omega
    simp only [hc, i64s_drop h3, F_base_Has, g_base_Has, go_sem, ↓tq_n, ↓tq_e, ↓tq_r, ↓bq_n, ↓bq_e, ↓bq_r, ↓rq_n, ↓rq_r, ↓rq_e]
    refine ⟨fun h4 => ?_, fun h4 => ⟨by rw [inR64]; omega, i + 1, ⟨by omega, all_succ h2 h4⟩, by omega, (GStep.forget (by repeat' first | exact EnvLe.nil _ | refine EnvLe.cons (AV.le.of_eq rfl) ?_ | refine EnvLe.cons (AV.le.undef _) ?_ | refine EnvLe.cons AV.le.unk ?_) (by repeat' first | exact AH.le.refl _ | assumption | (refine AH.le_put ?_ (by first | assumption | exact (AH.blk_put_ne _ _ (by assumption)).trans (by assumption) | exact AH.none_put (by assumption) | exact AH.none_put (AH.none_put (by assumption)) | (simp only [AH.blk_setTok, AH.tok_put] at *; first | assumption | exact AH.none_put (by assumption)))) | (refine AH.le_setTok ?_ (by first | assumption | exact (AH.blk_put_ne _ _ (by assumption)).trans (by assumption) | exact AH.none_put (by assumption) | exact AH.none_put (AH.none_put (by assumption)) | (simp only [AH.blk_setTok, AH.tok_put] at *; first | assumption | exact AH.none_put (by assumption)))) | (refine AH.le_putM ?_ (by first | assumption | exact (AH.mp_putM_ne _ _ (by assumption)).trans (by assumption) | (simp only [AH.mp_put, AH.mp_setTok] at *; assumption)))))⟩⟩
    exact ret_ok (by
      have : v ∈ e := by rw [← h4]; exact mem_getD h3
      simp [this])
  · have h3 : i = e.length := by omega
    subst h3
    simp only [F_base_Has, g_base_Has, go_sem, ↓tq_n, ↓tq_e, ↓tq_r, ↓bq_n, ↓bq_e, ↓bq_r, ↓rq_n, ↓rq_r, ↓rq_e]
    exact ret_ok (by
      have : v ∉ e := fun hh => by
        obtain ⟨j, hj, hje⟩ := List.getElem_of_mem hh
        exact h2 j hj (by simp [List.getD, hj, hje])
      simp [this])

/-- A piece of evidence. -/
def vArc (n : Int) (x : Int × Int) : Prop := (0 ≤ x.1 ∧ x.1 < n) ∧ (0 ≤ x.2 ∧ x.2 < n) ∧ x.1 ≠ x.2
instance (n : Int) (x : Int × Int) : Decidable (vArc n x) := by unfold vArc; infer_instance
/-- Evidence. -/
def Ev (n : Int) (a : List (Int × Int)) : Prop := 0 ≤ n ∧ n ≤ 24 ∧ a.length ≤ 40 ∧ ∀ i, i < a.length → vArc n (a.getD i (0, 0))
instance (n : Int) (a : List (Int × Int)) : Decidable (Ev n a) := by unfold Ev; infer_instance
theorem r_contradiction_Valid (n : Int) (nl : Bool) (a : List (Int × Int)) (tl : Tail) (h : AH) : RCall Tryz.prog n_contradiction_Valid [I n, .sl nl a.length (prs a) tl] h (.bool (decide (Ev n a))) := by
  refine RCall.of hm cF_contradiction_Valid (by simp [g_contradiction_Valid]) fun hw h' hl => ?_
  have hx := wf_len (hw _ (.tail _ (.head _)))
  simp only [F_contradiction_Valid, g_contradiction_Valid, go_sem, ↓tq_n, ↓tq_e, ↓tq_r, ↓bq_n, ↓bq_e, ↓bq_r, ↓rq_n, ↓rq_r, ↓rq_e]
  refine awp_loop (fun i : Nat => [(0, I n), (1, .sl nl a.length (prs a) tl), (7, .sl nl a.length (prs a) tl), (8, I a.length), (9, I i)]) (fun _ => h') (fun i => i ≤ a.length ∧ ∀ j, j < i → vArc n (a.getD j (0, 0))) (fun i => a.length - i) 0 ⟨Nat.zero_le _, fun j hj => absurd hj (Nat.not_lt_zero _)⟩ (GStep.forget (by repeat' first | exact EnvLe.nil _ | refine EnvLe.cons (AV.le.of_eq rfl) ?_ | refine EnvLe.cons (AV.le.undef _) ?_ | refine EnvLe.cons AV.le.unk ?_) (by repeat' first | exact AH.le.refl _ | assumption | (refine AH.le_put ?_ (by first | assumption | exact (AH.blk_put_ne _ _ (by assumption)).trans (by assumption) | exact AH.none_put (by assumption) | exact AH.none_put (AH.none_put (by assumption)) | (simp only [AH.blk_setTok, AH.tok_put] at *; first | assumption | exact AH.none_put (by assumption)))) | (refine AH.le_setTok ?_ (by first | assumption | exact (AH.blk_put_ne _ _ (by assumption)).trans (by assumption) | exact AH.none_put (by assumption) | exact AH.none_put (AH.none_put (by assumption)) | (simp only [AH.blk_setTok, AH.tok_put] at *; first | assumption | exact AH.none_put (by assumption)))) | (refine AH.le_putM ?_ (by first | assumption | exact (AH.mp_putM_ne _ _ (by assumption)).trans (by assumption) | (simp only [AH.mp_put, AH.mp_setTok] at *; assumption))))) fun i hi => .of_vg hm ?_
  obtain ⟨h1, h2⟩ := hi
  by_cases hc : i < a.length
  · have hc1 : (i : Int) < (a.length : Int) := by omega
    have no : ¬ vArc n (a.getD i (0, 0)) → decide (Ev n a) = false := fun hn => decide_eq_false fun he => hn (he.2.2.2 i hc)
    simp only [hc1, prs_drop hc, F_contradiction_Valid, g_contradiction_Valid, go_sem, ↓tq_n, ↓tq_e, ↓tq_r, ↓bq_n, ↓bq_e, ↓bq_r, ↓rq_n, ↓rq_r, ↓rq_e]
    have key : ∀ (p : Prop), p → True := fun _ _ => trivial
    by_cases hv : vArc n (a.getD i (0, 0))
    · have hv' := hv
      unfold vArc at hv'
      repeat' first
        | refine ⟨by rw [inR64]; omega, i + 1, ⟨by omega, all_succ h2 hv⟩, by omega, (GStep.forget (by repeat' first | exact EnvLe.nil _ | refine EnvLe.cons (AV.le.of_eq rfl) ?_ | refine EnvLe.cons (AV.le.undef _) ?_ | refine EnvLe.cons AV.le.unk ?_) (by repeat' first | exact AH.le.refl _ | assumption | (refine AH.le_put ?_ (by first | assumption | exact (AH.blk_put_ne _ _ (by assumption)).trans (by assumption) | exact AH.none_put (by assumption) | exact AH.none_put (AH.none_put (by assumption)) | (simp only [AH.blk_setTok, AH.tok_put] at *; first | assumption | exact AH.none_put (by assumption)))) | (refine AH.le_setTok ?_ (by first | assumption | exact (AH.blk_put_ne _ _ (by assumption)).trans (by assumption) | exact AH.none_put (by assumption) | exact AH.none_put (AH.none_put (by assumption)) | (simp only [AH.blk_setTok, AH.tok_put] at *; first | assumption | exact AH.none_put (by assumption)))) | (refine AH.le_putM ?_ (by first | assumption | exact (AH.mp_putM_ne _ _ (by assumption)).trans (by assumption) | (simp only [AH.mp_put, AH.mp_setTok] at *; assumption)))))⟩
        | refine ⟨fun k => ?_, fun k => ?_⟩
        | (exfalso; omega)
    · have hv' := hv
      unfold vArc at hv'
      repeat' first
        | exact ret_ok (by rw [no hv])
        | refine ⟨fun k => ?_, fun k => ?_⟩
        | (exfalso; omega)
  · have h3 : i = a.length := by omega
    subst h3
    by_cases e : Ev n a
    · obtain ⟨e1, e2, e3, _⟩ := e
      have e4 : (a.length : Int) ≤ 40 := by omega
      have e : Ev n a := ⟨e1, e2, e3, h2⟩
      simp only [e1, e2, e4, F_contradiction_Valid, g_contradiction_Valid, go_sem, ↓tq_n, ↓tq_e, ↓tq_r, ↓bq_n, ↓bq_e, ↓bq_r, ↓rq_n, ↓rq_r, ↓rq_e]
      exact ret_ok (by simp [e])
    · rw [decide_eq_false e]
      by_cases e1 : 0 ≤ n
      case neg => simp only [e1, F_contradiction_Valid, g_contradiction_Valid, go_sem, ↓tq_n, ↓tq_e, ↓tq_r, ↓bq_n, ↓bq_e, ↓bq_r, ↓rq_n, ↓rq_r, ↓rq_e]; exact ret_ok rfl
      by_cases e2 : n ≤ 24
      case neg => simp only [e1, e2, F_contradiction_Valid, g_contradiction_Valid, go_sem, ↓tq_n, ↓tq_e, ↓tq_r, ↓bq_n, ↓bq_e, ↓bq_r, ↓rq_n, ↓rq_r, ↓rq_e]; exact ret_ok rfl
      have e3 : ¬ (a.length : Int) ≤ 40 := fun k => e ⟨e1, e2, by omega, h2⟩
      simp only [e1, e2, e3, F_contradiction_Valid, g_contradiction_Valid, go_sem, ↓tq_n, ↓tq_e, ↓tq_r, ↓bq_n, ↓bq_e, ↓bq_r, ↓rq_n, ↓rq_r, ↓rq_e]
      exact ret_ok rfl
def ixA (k : Int) (s : List Int) (i : Nat) : Prop := (0 ≤ s.getD i 0 ∧ s.getD i 0 < k) ∧ (0 < i → s.getD (i - 1) 0 < s.getD i 0)
instance (k : Int) (s : List Int) (i : Nat) : Decidable (ixA k s i) := by unfold ixA; infer_instance
/-- A set of indices. -/
def Ix (k : Int) (s : List Int) : Prop := ∀ i, i < s.length → ixA k s i
instance (k : Int) (s : List Int) : Decidable (Ix k s) := by unfold Ix; infer_instance
theorem r_contradiction_valid (nl : Bool) (s : List Int) (tl : Tail) (k : Int) (h : AH) : RCall Tryz.prog n_contradiction_valid [.sl nl s.length (i64s s) tl, I k] h (.bool (decide (Ix k s))) := by
  refine RCall.of hm cF_contradiction_valid (by simp [g_contradiction_valid]) fun hw h' hl => ?_
  have hx := wf_len (hw _ (.head _))
  simp only [F_contradiction_valid, g_contradiction_valid, go_sem, ↓tq_n, ↓tq_e, ↓tq_r, ↓bq_n, ↓bq_e, ↓bq_r, ↓rq_n, ↓rq_r, ↓rq_e]
  refine awp_loop (fun i : Nat => [(0, .sl nl s.length (i64s s) tl), (1, I k), (7, .sl nl s.length (i64s s) tl), (8, I s.length), (9, I i)]) (fun _ => h') (fun i => i ≤ s.length ∧ ∀ j, j < i → ixA k s j) (fun i => s.length - i) 0 ⟨Nat.zero_le _, fun j hj => absurd hj (Nat.not_lt_zero _)⟩ (GStep.forget (by repeat' first | exact EnvLe.nil _ | refine EnvLe.cons (AV.le.of_eq rfl) ?_ | refine EnvLe.cons (AV.le.undef _) ?_ | refine EnvLe.cons AV.le.unk ?_) (by repeat' first | exact AH.le.refl _ | assumption | (refine AH.le_put ?_ (by first | assumption | exact (AH.blk_put_ne _ _ (by assumption)).trans (by assumption) | exact AH.none_put (by assumption) | exact AH.none_put (AH.none_put (by assumption)) | (simp only [AH.blk_setTok, AH.tok_put] at *; first | assumption | exact AH.none_put (by assumption)))) | (refine AH.le_setTok ?_ (by first | assumption | exact (AH.blk_put_ne _ _ (by assumption)).trans (by assumption) | exact AH.none_put (by assumption) | exact AH.none_put (AH.none_put (by assumption)) | (simp only [AH.blk_setTok, AH.tok_put] at *; first | assumption | exact AH.none_put (by assumption)))) | (refine AH.le_putM ?_ (by first | assumption | exact (AH.mp_putM_ne _ _ (by assumption)).trans (by assumption) | (simp only [AH.mp_put, AH.mp_setTok] at *; assumption))))) fun i hi => .of_vg hm ?_
  obtain ⟨h1, h2⟩ := hi
  by_cases hc : i < s.length
  · have hc1 : (i : Int) < (s.length : Int) := by omega
    have no : ¬ ixA k s i → decide (Ix k s) = false := fun hn => decide_eq_false fun he => hn (he i hc)
    by_cases v1 : s.getD i 0 < 0
    · simp only [hc1, i64s_drop hc, v1, F_contradiction_valid, g_contradiction_valid, go_sem, ↓tq_n, ↓tq_e, ↓tq_r, ↓bq_n, ↓bq_e, ↓bq_r, ↓rq_n, ↓rq_r, ↓rq_e]
      exact ret_ok (by rw [no (fun hv => by have := hv.1; omega)])
    by_cases v2 : k ≤ s.getD i 0
    · simp only [hc1, i64s_drop hc, v1, v2, F_contradiction_valid, g_contradiction_valid, go_sem, ↓tq_n, ↓tq_e, ↓tq_r, ↓bq_n, ↓bq_e, ↓bq_r, ↓rq_n, ↓rq_r, ↓rq_e]
      exact ret_ok (by rw [no (fun hv => by have := hv.1; omega)])
    cases i with
    | zero =>
      have hz : ¬ (0 : Int) < ((0 : Nat) : Int) := by omega
      simp only [hc1, i64s_drop hc, v1, v2, hz, F_contradiction_valid, g_contradiction_valid, go_sem, ↓tq_n, ↓tq_e, ↓tq_r, ↓bq_n, ↓bq_e, ↓bq_r, ↓rq_n, ↓rq_r, ↓rq_e]
      exact ⟨by rw [inR64]; omega, 1, ⟨by omega, all_succ h2 ⟨by omega, fun hh => by omega⟩⟩, by omega, (GStep.forget (by repeat' first | exact EnvLe.nil _ | refine EnvLe.cons (AV.le.of_eq rfl) ?_ | refine EnvLe.cons (AV.le.undef _) ?_ | refine EnvLe.cons AV.le.unk ?_) (by repeat' first | exact AH.le.refl _ | assumption | (refine AH.le_put ?_ (by first | assumption | exact (AH.blk_put_ne _ _ (by assumption)).trans (by assumption) | exact AH.none_put (by assumption) | exact AH.none_put (AH.none_put (by assumption)) | (simp only [AH.blk_setTok, AH.tok_put] at *; first | assumption | exact AH.none_put (by assumption)))) | (refine AH.le_setTok ?_ (by first | assumption | exact (AH.blk_put_ne _ _ (by assumption)).trans (by assumption) | exact AH.none_put (by assumption) | exact AH.none_put (AH.none_put (by assumption)) | (simp only [AH.blk_setTok, AH.tok_put] at *; first | assumption | exact AH.none_put (by assumption)))) | (refine AH.le_putM ?_ (by first | assumption | exact (AH.mp_putM_ne _ _ (by assumption)).trans (by assumption) | (simp only [AH.mp_put, AH.mp_setTok] at *; assumption)))))⟩
    | succ j =>
      have hj0 : (0 : Int) < ((j + 1 : Nat) : Int) := by omega
      have hjj : ((j + 1 : Nat) : Int) - 1 = (j : Int) := by omega
      have hj1 : (j : Int) < (s.length : Int) := by omega
      simp only [hc1, i64s_drop hc, v1, v2, hj0, hjj, hj1, i64s_drop (show j < s.length by omega), F_contradiction_valid, g_contradiction_valid, go_sem, ↓tq_n, ↓tq_e, ↓tq_r, ↓bq_n, ↓bq_e, ↓bq_r, ↓rq_n, ↓rq_r, ↓rq_e]
      refine ⟨by rw [inR64]; omega, fun v3 => ?_, fun v3 => ?_⟩
      · exact ret_ok (by rw [no (fun hv => by have := hv.2 (by omega); simp only [Nat.add_sub_cancel] at this; omega)])
      · exact ⟨by rw [inR64]; omega, j + 1 + 1, ⟨by omega, all_succ h2 ⟨by omega, fun _ => by simp only [Nat.add_sub_cancel]; omega⟩⟩, by omega, (GStep.forget (by repeat' first | exact EnvLe.nil _ | refine EnvLe.cons (AV.le.of_eq rfl) ?_ | refine EnvLe.cons (AV.le.undef _) ?_ | refine EnvLe.cons AV.le.unk ?_) (by repeat' first | exact AH.le.refl _ | assumption | (refine AH.le_put ?_ (by first | assumption | exact (AH.blk_put_ne _ _ (by assumption)).trans (by assumption) | exact AH.none_put (by assumption) | exact AH.none_put (AH.none_put (by assumption)) | (simp only [AH.blk_setTok, AH.tok_put] at *; first | assumption | exact AH.none_put (by assumption)))) | (refine AH.le_setTok ?_ (by first | assumption | exact (AH.blk_put_ne _ _ (by assumption)).trans (by assumption) | exact AH.none_put (by assumption) | exact AH.none_put (AH.none_put (by assumption)) | (simp only [AH.blk_setTok, AH.tok_put] at *; first | assumption | exact AH.none_put (by assumption)))) | (refine AH.le_putM ?_ (by first | assumption | exact (AH.mp_putM_ne _ _ (by assumption)).trans (by assumption) | (simp only [AH.mp_put, AH.mp_setTok] at *; assumption)))))⟩
  · have h3 : i = s.length := by omega
    subst h3
    simp only [F_contradiction_valid, g_contradiction_valid, go_sem, ↓tq_n, ↓tq_e, ↓tq_r, ↓bq_n, ↓bq_e, ↓bq_r, ↓rq_n, ↓rq_r, ↓rq_e]
    have e : Ix k s := h2
    exact ret_ok (by simp [e])
end Go.Proofs.YtidmekdkfiljjaaGreat
namespace Go.Proofs.YtidmekdkfiljjaaGreat
open Go Go.Abs
set_option linter.unusedSimpArgs false
set_option linter.unusedVariables false
set_option maxRecDepth 20000

/-- The arcs of a set. -/
def sub (a : List (Int × Int)) (s : List Int) : List (Int × Int) := s.map fun k => a.getD k.toNat (0, 0)
theorem sub_len (a : List (Int × Int)) (s : List Int) : (sub a s).length = s.length := by simp [sub]
theorem sub_get {a : List (Int × Int)} {s : List Int} {i : Nat} (h : i < s.length) : (sub a s).getD i (0, 0) = a.getD (s.getD i 0).toNat (0, 0) := by simp [sub, List.getD, h]
theorem ix_at {a : List (Int × Int)} {s : List Int} (h : Ix a.length s) {i : Nat} (hi : i < s.length) : 0 ≤ s.getD i 0 ∧ s.getD i 0 < a.length ∧ (s.getD i 0).toNat < a.length := by
  have := (h i hi).1
  omega
theorem ev_at {n : Nat} {a : List (Int × Int)} (h : Ev n a) {k : Nat} (hk : k < a.length) : Arc n (a.getD k (0, 0)) := by
  obtain ⟨h1, h2, _⟩ := h.2.2.2 k hk
  exact ⟨h1.1, h1.2, h2.1, h2.2⟩
theorem sub_arc {n : Nat} {a : List (Int × Int)} {s : List Int} (h : Ev n a) (hs : Ix a.length s) : ∀ i, i < (sub a s).length → Arc n ((sub a s).getD i (0, 0)) := fun i hi => by
  rw [sub_len] at hi
  rw [sub_get hi]
  exact ev_at h (ix_at hs hi).2.2
/-- Whether arcs have a cycle. -/
def cyB (n : Nat) (b : List (Int × Int)) : Bool := (List.range n).any fun i => bt (wr n (nxt n b b.length) n) i i
def arcE (n : Nat) (b : List (Int × Int)) : Nat → Nat → Prop := BE (nxt n b b.length)
theorem arcE_iff {n : Nat} {b : List (Int × Int)} (hb : ∀ i, i < b.length → Arc n (b.getD i (0, 0))) {i j : Nat} : arcE n b i j ↔ ∃ q, q < b.length ∧ b.getD q (0, 0) = ((i : Int), (j : Int)) := by
  have := nxt_bt (n := n) (a := b) (fun i hi => hb i hi) b.length (Nat.le_refl _) i j
  exact this
theorem arcE_lt {n : Nat} {b : List (Int × Int)} (hb : ∀ i, i < b.length → Arc n (b.getD i (0, 0))) : ∀ i j, arcE n b i j → i < n ∧ j < n := by
  intro i j h
  obtain ⟨q, hq, e⟩ := (arcE_iff hb).1 h
  have := hb q hq
  rw [e] at this
  obtain ⟨h1, h2, h3, h4⟩ := this
  simp only at h1 h2 h3 h4
  omega
theorem cyB_iff {n : Nat} {b : List (Int × Int)} (hb : ∀ i, i < b.length → Arc n (b.getD i (0, 0))) : cyB n b = true ↔ ∃ v, v < n ∧ Way (arcE n b) v v := by
  unfold cyB
  rw [List.any_eq_true]
  constructor
  · rintro ⟨v, h1, h2⟩
    rw [List.mem_range] at h1
    exact ⟨v, h1, (wr_way (nxt_len _ _ _) (arcE_lt hb) h1).1 h2⟩
  · rintro ⟨v, h1, h2⟩
    exact ⟨v, List.mem_range.2 h1, (wr_way (nxt_len _ _ _) (arcE_lt hb) h1).2 h2⟩

theorem s_contradiction_reach (n : Nat) (n1 : Bool) (a : List (Int × Int)) (u1 : Tail) (he : Ev n a) (n2 : Bool) (s : List Int) (u2 : Tail) (hs : Ix a.length s) (h : AH) :
    ACalls Tryz.prog n_contradiction_reach [I n, .sl n1 a.length (prs a) u1, .sl n2 s.length (i64s s) u2] h (fun r h'' => ∃ b, h.blk b = none ∧ r = .msl b 0 n (some n) ∧ h'' = h.put b (u32s (wr n (nxt n (sub a s) s.length) n))) := by
  refine ACalls.of hm cF_contradiction_reach (by simp [g_contradiction_reach]) fun hw => ?_
  have hx := wf_len (hw _ (.tail _ (.tail _ (.head _))))
  have hn : n ≤ 24 := by have := he.2.1; omega
  have hsa := sub_arc he hs
  simp only [F_contradiction_reach, g_contradiction_reach, go_sem, ↓tq_n, ↓tq_e, ↓tq_r, ↓bq_n, ↓bq_e, ↓bq_r, ↓rq_n, ↓rq_r, ↓rq_e]
  refine MakeG.mk (by omega) (Int.le_refl _) (by omega) (by omega) fun b hb => ?_
  rw [flat_rep]
  simp only [F_contradiction_reach, g_contradiction_reach, go_sem, ↓tq_n, ↓tq_e, ↓tq_r, ↓bq_n, ↓bq_e, ↓bq_r, ↓rq_n, ↓rq_r, ↓rq_e]
  refine awp_loop (fun i : Nat => [(0, I n), (1, .sl n1 a.length (prs a) u1), (7, .msl b 0 n (some n)), (14, .sl n2 s.length (i64s s) u2), (15, I s.length), (16, I i)]) (fun i => h.put b (u32s (nxt n (sub a s) i))) (fun i => i ≤ s.length) (fun i => s.length - i) 0 (Nat.zero_le _) (by simp only [nxt, u32s, List.map_replicate]; exact (GStep.forget (by repeat' first | exact EnvLe.nil _ | refine EnvLe.cons (AV.le.of_eq rfl) ?_ | refine EnvLe.cons (AV.le.undef _) ?_ | refine EnvLe.cons AV.le.unk ?_) (by repeat' first | exact AH.le.refl _ | assumption | (refine AH.le_put ?_ (by first | assumption | exact (AH.blk_put_ne _ _ (by assumption)).trans (by assumption) | exact AH.none_put (by assumption) | exact AH.none_put (AH.none_put (by assumption)) | (simp only [AH.blk_setTok, AH.tok_put] at *; first | assumption | exact AH.none_put (by assumption)))) | (refine AH.le_setTok ?_ (by first | assumption | exact (AH.blk_put_ne _ _ (by assumption)).trans (by assumption) | exact AH.none_put (by assumption) | exact AH.none_put (AH.none_put (by assumption)) | (simp only [AH.blk_setTok, AH.tok_put] at *; first | assumption | exact AH.none_put (by assumption)))) | (refine AH.le_putM ?_ (by first | assumption | exact (AH.mp_putM_ne _ _ (by assumption)).trans (by assumption) | (simp only [AH.mp_put, AH.mp_setTok] at *; assumption)))))) fun i hi => .of_vg hm ?_
  by_cases h5 : i < s.length
  · have hc : (i : Int) < (s.length : Int) := by omega
    obtain ⟨i1, i2, i3⟩ := ix_at hs h5
    have hx := ev_at he i3
    have hg := sub_get (a := a) h5
    have hnx : nxt n (sub a s) (i + 1) = (nxt n (sub a s) i).set (a.getD (s.getD i 0).toNat (0, 0)).1.toNat ((nxt n (sub a s) i).getD (a.getD (s.getD i 0).toNat (0, 0)).1.toNat 0 ||| 2 ^ (a.getD (s.getD i 0).toNat (0, 0)).2.toNat) := by rw [← hg]; rfl
    unfold Arc at hx
    have hp : (a.getD (s.getD i 0).toNat (0, 0)).1.toNat < (nxt n (sub a s) i).length := by rw [nxt_len]; omega
    have e1 := shl32_one (i := (a.getD (s.getD i 0).toNat (0, 0)).2.toNat) (by omega)
    have hsm := nxt_sm hn (a := sub a s) (fun k hk => (hsa k hk).2.2.2) i (by rw [sub_len]; exact hi)
    have hpow : 2 ^ (a.getD (s.getD i 0).toNat (0, 0)).2.toNat < 4294967296 := by
      have : 2 ^ (a.getD (s.getD i 0).toNat (0, 0)).2.toNat ≤ 2 ^ 31 := Nat.pow_le_pow_right (by decide) (by omega)
      omega
    have e2 := bitu32_or (hsm (a.getD (s.getD i 0).toNat (0, 0)).1.toNat) hpow
    simp only [hc, i64s_drop h5, i1, i2, prs_drop i3, u32s_drop hp, e1, e2, F_contradiction_reach, g_contradiction_reach, go_sem, ↓tq_n, ↓tq_e, ↓tq_r, ↓bq_n, ↓bq_e, ↓bq_r, ↓rq_n, ↓rq_r, ↓rq_e]
    have e3 : u32s (nxt n (sub a s) (i + 1)) = (u32s (nxt n (sub a s) i)).set (a.getD (s.getD i 0).toNat (0, 0)).1.toNat (AV.int IntKind.u32 ((((nxt n (sub a s) i).getD (a.getD (s.getD i 0).toNat (0, 0)).1.toNat 0 ||| 2 ^ (a.getD (s.getD i 0).toNat (0, 0)).2.toNat : Nat)) : Int)) := by
      rw [hnx]
      simp only [u32s, List.map_set]
    refine ⟨hx.1, hx.2.1, hx.2.2.1, hx.1, hx.2.1, by rw [u32s_len]; omega, by rw [inR64]; omega, i + 1, by omega, by omega, ?_⟩
    rw [e3]
    exact (GStep.forget (by repeat' first | exact EnvLe.nil _ | refine EnvLe.cons (AV.le.of_eq rfl) ?_ | refine EnvLe.cons (AV.le.undef _) ?_ | refine EnvLe.cons AV.le.unk ?_) (by repeat' first | exact AH.le.refl _ | assumption | (refine AH.le_put ?_ (by first | assumption | exact (AH.blk_put_ne _ _ (by assumption)).trans (by assumption) | exact AH.none_put (by assumption) | exact AH.none_put (AH.none_put (by assumption)) | (simp only [AH.blk_setTok, AH.tok_put] at *; first | assumption | exact AH.none_put (by assumption)))) | (refine AH.le_setTok ?_ (by first | assumption | exact (AH.blk_put_ne _ _ (by assumption)).trans (by assumption) | exact AH.none_put (by assumption) | exact AH.none_put (AH.none_put (by assumption)) | (simp only [AH.blk_setTok, AH.tok_put] at *; first | assumption | exact AH.none_put (by assumption)))) | (refine AH.le_putM ?_ (by first | assumption | exact (AH.mp_putM_ne _ _ (by assumption)).trans (by assumption) | (simp only [AH.mp_put, AH.mp_setTok] at *; assumption)))))
  have h5 : i = s.length := by omega
  subst h5
  simp only [F_contradiction_reach, g_contradiction_reach, go_sem, ↓tq_n, ↓tq_e, ↓tq_r, ↓bq_n, ↓bq_e, ↓bq_r, ↓rq_n, ↓rq_r, ↓rq_e]
  have hsm := nxt_sm hn (a := sub a s) (fun k hk => (hsa k hk).2.2.2) s.length (by rw [sub_len]; exact Nat.le_refl _)
  have hln := nxt_len n (sub a s) s.length
  generalize nxt n (sub a s) s.length = o at hsm hln ⊢
  refine awp_loop (fun m : Nat => [(0, I n), (7, .msl b 0 n (some n)), (37, I n), (38, I m)]) (fun m => h.put b (u32s (wr n o m))) (fun m => m ≤ n) (fun m => n - m) 0 (Nat.zero_le _) (GStep.forget (by repeat' first | exact EnvLe.nil _ | refine EnvLe.cons (AV.le.of_eq rfl) ?_ | refine EnvLe.cons (AV.le.undef _) ?_ | refine EnvLe.cons AV.le.unk ?_) (by repeat' first | exact AH.le.refl _ | assumption | (refine AH.le_put ?_ (by first | assumption | exact (AH.blk_put_ne _ _ (by assumption)).trans (by assumption) | exact AH.none_put (by assumption) | exact AH.none_put (AH.none_put (by assumption)) | (simp only [AH.blk_setTok, AH.tok_put] at *; first | assumption | exact AH.none_put (by assumption)))) | (refine AH.le_setTok ?_ (by first | assumption | exact (AH.blk_put_ne _ _ (by assumption)).trans (by assumption) | exact AH.none_put (by assumption) | exact AH.none_put (AH.none_put (by assumption)) | (simp only [AH.blk_setTok, AH.tok_put] at *; first | assumption | exact AH.none_put (by assumption)))) | (refine AH.le_putM ?_ (by first | assumption | exact (AH.mp_putM_ne _ _ (by assumption)).trans (by assumption) | (simp only [AH.mp_put, AH.mp_setTok] at *; assumption))))) fun m hmn => .of_vg hm ?_
  by_cases h5 : m < n
  · have hc : (m : Int) < (n : Int) := by omega
    simp only [hc, F_contradiction_reach, g_contradiction_reach, go_sem, ↓tq_n, ↓tq_e, ↓tq_r, ↓bq_n, ↓bq_e, ↓bq_r, ↓rq_n, ↓rq_r, ↓rq_e]
    have hsm2 := wr_sm (n := n) hsm m
    have hln2 := wr_len n o m
    refine awp_loop (fun i : Nat => [(0, I n), (7, .msl b 0 n (some n)), (10, I m), (37, I n), (38, I m), (41, I n), (42, I i)]) (fun i => h.put b (u32s (wi m (wr n o m) i))) (fun i => i ≤ n) (fun i => n - i) 0 (Nat.zero_le _) (GStep.forget (by repeat' first | exact EnvLe.nil _ | refine EnvLe.cons (AV.le.of_eq rfl) ?_ | refine EnvLe.cons (AV.le.undef _) ?_ | refine EnvLe.cons AV.le.unk ?_) (by repeat' first | exact AH.le.refl _ | assumption | (refine AH.le_put ?_ (by first | assumption | exact (AH.blk_put_ne _ _ (by assumption)).trans (by assumption) | exact AH.none_put (by assumption) | exact AH.none_put (AH.none_put (by assumption)) | (simp only [AH.blk_setTok, AH.tok_put] at *; first | assumption | exact AH.none_put (by assumption)))) | (refine AH.le_setTok ?_ (by first | assumption | exact (AH.blk_put_ne _ _ (by assumption)).trans (by assumption) | exact AH.none_put (by assumption) | exact AH.none_put (AH.none_put (by assumption)) | (simp only [AH.blk_setTok, AH.tok_put] at *; first | assumption | exact AH.none_put (by assumption)))) | (refine AH.le_putM ?_ (by first | assumption | exact (AH.mp_putM_ne _ _ (by assumption)).trans (by assumption) | (simp only [AH.mp_put, AH.mp_setTok] at *; assumption))))) fun i hi => .of_vg hm ?_
    by_cases h6 : i < n
    · have hc2 : (i : Int) < (n : Int) := by omega
      have hsm3 := wi_sm (m := m) hsm2 i
      have hln3 := wi_len m (wr n o m) i
      have hi1 : i < (wi m (wr n o m) i).length := by omega
      have hm1 : m < (wi m (wr n o m) i).length := by omega
      have e0 := bitu32_at (hsm3 i) (show m ≤ 32 by omega)
      have e2 := bitu32_or (hsm3 i) (hsm3 m)
      by_cases h7 : ((wi m (wr n o m) i).getD i 0).testBit m = true
      · have e3 : u32s (wi m (wr n o m) (i + 1)) = (u32s (wi m (wr n o m) i)).set i (AV.int IntKind.u32 (((wi m (wr n o m) i).getD i 0 ||| (wi m (wr n o m) i).getD m 0 : Nat) : Int)) := by
          rw [wi, if_pos (show bt _ i m = true from h7)]
          simp only [u32s, List.map_set]
        simp only [hc2, hc, u32s_drop hi1, u32s_drop hm1, e0, h7, e2, F_contradiction_reach, g_contradiction_reach, go_sem, ↓tq_n, ↓tq_e, ↓tq_r, ↓bq_n, ↓bq_e, ↓bq_r, ↓rq_n, ↓rq_r, ↓rq_e]
        refine ⟨by rw [u32s_len]; omega, by rw [inR64]; omega, i + 1, by omega, by omega, ?_⟩
        rw [e3]
        exact (GStep.forget (by repeat' first | exact EnvLe.nil _ | refine EnvLe.cons (AV.le.of_eq rfl) ?_ | refine EnvLe.cons (AV.le.undef _) ?_ | refine EnvLe.cons AV.le.unk ?_) (by repeat' first | exact AH.le.refl _ | assumption | (refine AH.le_put ?_ (by first | assumption | exact (AH.blk_put_ne _ _ (by assumption)).trans (by assumption) | exact AH.none_put (by assumption) | exact AH.none_put (AH.none_put (by assumption)) | (simp only [AH.blk_setTok, AH.tok_put] at *; first | assumption | exact AH.none_put (by assumption)))) | (refine AH.le_setTok ?_ (by first | assumption | exact (AH.blk_put_ne _ _ (by assumption)).trans (by assumption) | exact AH.none_put (by assumption) | exact AH.none_put (AH.none_put (by assumption)) | (simp only [AH.blk_setTok, AH.tok_put] at *; first | assumption | exact AH.none_put (by assumption)))) | (refine AH.le_putM ?_ (by first | assumption | exact (AH.mp_putM_ne _ _ (by assumption)).trans (by assumption) | (simp only [AH.mp_put, AH.mp_setTok] at *; assumption)))))
      · have e3 : wi m (wr n o m) (i + 1) = wi m (wr n o m) i := by
          rw [wi, if_neg (show ¬ bt _ i m = true from h7)]
        simp only [hc2, hc, u32s_drop hi1, e0, h7, F_contradiction_reach, g_contradiction_reach, go_sem, ↓tq_n, ↓tq_e, ↓tq_r, ↓bq_n, ↓bq_e, ↓bq_r, ↓rq_n, ↓rq_r, ↓rq_e]
        refine ⟨by rw [inR64]; omega, i + 1, by omega, by omega, ?_⟩
        rw [e3]
        exact (GStep.forget (by repeat' first | exact EnvLe.nil _ | refine EnvLe.cons (AV.le.of_eq rfl) ?_ | refine EnvLe.cons (AV.le.undef _) ?_ | refine EnvLe.cons AV.le.unk ?_) (by repeat' first | exact AH.le.refl _ | assumption | (refine AH.le_put ?_ (by first | assumption | exact (AH.blk_put_ne _ _ (by assumption)).trans (by assumption) | exact AH.none_put (by assumption) | exact AH.none_put (AH.none_put (by assumption)) | (simp only [AH.blk_setTok, AH.tok_put] at *; first | assumption | exact AH.none_put (by assumption)))) | (refine AH.le_setTok ?_ (by first | assumption | exact (AH.blk_put_ne _ _ (by assumption)).trans (by assumption) | exact AH.none_put (by assumption) | exact AH.none_put (AH.none_put (by assumption)) | (simp only [AH.blk_setTok, AH.tok_put] at *; first | assumption | exact AH.none_put (by assumption)))) | (refine AH.le_putM ?_ (by first | assumption | exact (AH.mp_putM_ne _ _ (by assumption)).trans (by assumption) | (simp only [AH.mp_put, AH.mp_setTok] at *; assumption)))))
    have h6 : i = n := by omega
    subst h6
    simp only [F_contradiction_reach, g_contradiction_reach, go_sem, ↓tq_n, ↓tq_e, ↓tq_r, ↓bq_n, ↓bq_e, ↓bq_r, ↓rq_n, ↓rq_r, ↓rq_e]
    exact ⟨by rw [inR64]; omega, m + 1, by omega, by omega, (GStep.forget (by repeat' first | exact EnvLe.nil _ | refine EnvLe.cons (AV.le.of_eq rfl) ?_ | refine EnvLe.cons (AV.le.undef _) ?_ | refine EnvLe.cons AV.le.unk ?_) (by repeat' first | exact AH.le.refl _ | assumption | (refine AH.le_put ?_ (by first | assumption | exact (AH.blk_put_ne _ _ (by assumption)).trans (by assumption) | exact AH.none_put (by assumption) | exact AH.none_put (AH.none_put (by assumption)) | (simp only [AH.blk_setTok, AH.tok_put] at *; first | assumption | exact AH.none_put (by assumption)))) | (refine AH.le_setTok ?_ (by first | assumption | exact (AH.blk_put_ne _ _ (by assumption)).trans (by assumption) | exact AH.none_put (by assumption) | exact AH.none_put (AH.none_put (by assumption)) | (simp only [AH.blk_setTok, AH.tok_put] at *; first | assumption | exact AH.none_put (by assumption)))) | (refine AH.le_putM ?_ (by first | assumption | exact (AH.mp_putM_ne _ _ (by assumption)).trans (by assumption) | (simp only [AH.mp_put, AH.mp_setTok] at *; assumption)))))⟩
  have h5 : m = n := by omega
  subst h5
  simp only [F_contradiction_reach, g_contradiction_reach, go_sem, ↓tq_n, ↓tq_e, ↓tq_r, ↓bq_n, ↓bq_e, ↓bq_r, ↓rq_n, ↓rq_r, ↓rq_e]
  exact ⟨_, _, RGh.refl _ _, b, hb, rfl, rfl⟩
theorem r_contradiction_clashes (n : Nat) (n1 : Bool) (a : List (Int × Int)) (u1 : Tail) (he : Ev n a) (n2 : Bool) (s : List Int) (u2 : Tail) (hs : Ix a.length s) (h : AH) :
    RCall Tryz.prog n_contradiction_clashes [I n, .sl n1 a.length (prs a) u1, .sl n2 s.length (i64s s) u2] h (.bool (cyB n (sub a s))) := by
  refine RCall.of hm cF_contradiction_clashes (by simp [g_contradiction_clashes]) fun hw h' hl => ?_
  have hn : n ≤ 24 := by have := he.2.1; omega
  have hsa := sub_arc he hs
  simp only [F_contradiction_clashes, g_contradiction_clashes, go_sem, ↓tq_n, ↓tq_e, ↓tq_r, ↓bq_n, ↓bq_e, ↓bq_r, ↓rq_n, ↓rq_r, ↓rq_e]
  refine CallS.mk (s_contradiction_reach n n1 a u1 he n2 s u2 hs _) fun r h'' hr => ?_
  obtain ⟨b, hb, rfl, rfl⟩ := hr
  have hsm := wr_sm (n := n) (nxt_sm hn (a := sub a s) (fun k hk => (hsa k hk).2.2.2) s.length (by rw [sub_len]; exact Nat.le_refl _)) n
  have hln : (wr n (nxt n (sub a s) s.length) n).length = n := by rw [wr_len, nxt_len]
  have hcy : cyB n (sub a s) = (List.range n).any fun i => bt (wr n (nxt n (sub a s) s.length) n) i i := by unfold cyB; rw [sub_len]
  rw [hcy]
  generalize wr n (nxt n (sub a s) s.length) n = o at hsm hln ⊢
  simp only [F_contradiction_clashes, g_contradiction_clashes, go_sem, ↓tq_n, ↓tq_e, ↓tq_r, ↓bq_n, ↓bq_e, ↓bq_r, ↓rq_n, ↓rq_r, ↓rq_e]
  refine awp_loop (fun i : Nat => [(12, .msl b 0 n (some n)), (13, I n), (14, I i)]) (fun _ => h'.put b (u32s o)) (fun i => i ≤ n ∧ ∀ j, j < i → bt o j j = false) (fun i => n - i) 0 ⟨Nat.zero_le _, fun j hj => absurd hj (Nat.not_lt_zero _)⟩ (GStep.forget (by repeat' first | exact EnvLe.nil _ | refine EnvLe.cons (AV.le.of_eq rfl) ?_ | refine EnvLe.cons (AV.le.undef _) ?_ | refine EnvLe.cons AV.le.unk ?_) (by repeat' first | exact AH.le.refl _ | assumption | (refine AH.le_put ?_ (by first | assumption | exact (AH.blk_put_ne _ _ (by assumption)).trans (by assumption) | exact AH.none_put (by assumption) | exact AH.none_put (AH.none_put (by assumption)) | (simp only [AH.blk_setTok, AH.tok_put] at *; first | assumption | exact AH.none_put (by assumption)))) | (refine AH.le_setTok ?_ (by first | assumption | exact (AH.blk_put_ne _ _ (by assumption)).trans (by assumption) | exact AH.none_put (by assumption) | exact AH.none_put (AH.none_put (by assumption)) | (simp only [AH.blk_setTok, AH.tok_put] at *; first | assumption | exact AH.none_put (by assumption)))) | (refine AH.le_putM ?_ (by first | assumption | exact (AH.mp_putM_ne _ _ (by assumption)).trans (by assumption) | (simp only [AH.mp_put, AH.mp_setTok] at *; assumption))))) fun i hi => .of_vg hm ?_
  obtain ⟨h1, h2⟩ := hi
  by_cases h6 : i < n
  · have hc2 : (i : Int) < (n : Int) := by omega
    have e0 := bitu32_at (hsm i) (show i ≤ 32 by omega)
    by_cases h7 : (o.getD i 0).testBit i = true
    · simp only [hc2, u32s_drop (show i < o.length by omega), e0, h7, F_contradiction_clashes, g_contradiction_clashes, go_sem, ↓tq_n, ↓tq_e, ↓tq_r, ↓bq_n, ↓bq_e, ↓bq_r, ↓rq_n, ↓rq_r, ↓rq_e]
      refine ret_hb (AH.le_put (.refl _) hb) ?_
      have : ((List.range n).any fun i => bt o i i) = true := List.any_eq_true.2 ⟨i, List.mem_range.2 h6, h7⟩
      rw [this]
    · simp only [hc2, u32s_drop (show i < o.length by omega), e0, h7, F_contradiction_clashes, g_contradiction_clashes, go_sem, ↓tq_n, ↓tq_e, ↓tq_r, ↓bq_n, ↓bq_e, ↓bq_r, ↓rq_n, ↓rq_r, ↓rq_e]
      exact ⟨by rw [inR64]; omega, i + 1, ⟨by omega, all_succ h2 (Bool.eq_false_iff.2 h7)⟩, by omega, (GStep.forget (by repeat' first | exact EnvLe.nil _ | refine EnvLe.cons (AV.le.of_eq rfl) ?_ | refine EnvLe.cons (AV.le.undef _) ?_ | refine EnvLe.cons AV.le.unk ?_) (by repeat' first | exact AH.le.refl _ | assumption | (refine AH.le_put ?_ (by first | assumption | exact (AH.blk_put_ne _ _ (by assumption)).trans (by assumption) | exact AH.none_put (by assumption) | exact AH.none_put (AH.none_put (by assumption)) | (simp only [AH.blk_setTok, AH.tok_put] at *; first | assumption | exact AH.none_put (by assumption)))) | (refine AH.le_setTok ?_ (by first | assumption | exact (AH.blk_put_ne _ _ (by assumption)).trans (by assumption) | exact AH.none_put (by assumption) | exact AH.none_put (AH.none_put (by assumption)) | (simp only [AH.blk_setTok, AH.tok_put] at *; first | assumption | exact AH.none_put (by assumption)))) | (refine AH.le_putM ?_ (by first | assumption | exact (AH.mp_putM_ne _ _ (by assumption)).trans (by assumption) | (simp only [AH.mp_put, AH.mp_setTok] at *; assumption)))))⟩
  · have h6 : i = n := by omega
    subst h6
    simp only [F_contradiction_clashes, g_contradiction_clashes, go_sem, ↓tq_n, ↓tq_e, ↓tq_r, ↓bq_n, ↓bq_e, ↓bq_r, ↓rq_n, ↓rq_r, ↓rq_e]
    refine ret_hb (AH.le_put (.refl _) hb) ?_
    have : ((List.range i).any fun i => bt o i i) = false := by
      rw [Bool.eq_false_iff]
      intro hh
      obtain ⟨j, h3, h4⟩ := List.any_eq_true.1 hh
      rw [h2 j (List.mem_range.1 h3)] at h4
      cases h4
    rw [this]

end Go.Proofs.YtidmekdkfiljjaaGreat
namespace Go.Proofs.YtidmekdkfiljjaaGreat
open Go Go.Abs
set_option linter.unusedSimpArgs false
set_option linter.unusedVariables false
set_option maxRecDepth 20000

end Go.Proofs.YtidmekdkfiljjaaGreat
namespace Go.Proofs.YtidmekdkfiljjaaGreat
open Go Go.Abs
set_option linter.unusedSimpArgs false
set_option linter.unusedVariables false
set_option maxRecDepth 20000

theorem ev_nat {n : Int} {a : List (Int × Int)} (h : Ev n a) : ∃ m : Nat, n = m := ⟨n.toNat, by have := h.1; omega⟩
def isB (n : Int) (a : List (Int × Int)) (s : List Int) : Bool := decide (Ev n a ∧ Ix a.length s) && cyB n.toNat (sub a s)
def agB (n : Int) (a : List (Int × Int)) (s : List Int) : Bool := decide (Ev n a ∧ Ix a.length s) && !cyB n.toNat (sub a s)
theorem isB_no {n : Int} {a : List (Int × Int)} {s : List Int} (h : ¬ (Ev n a ∧ Ix a.length s)) : isB n a s = false ∧ agB n a s = false := by
  unfold isB agB
  rw [decide_eq_false h]
  exact ⟨rfl, rfl⟩
theorem isB_yes {n : Nat} {a : List (Int × Int)} {s : List Int} (h : Ev n a) (h2 : Ix a.length s) : isB n a s = cyB n (sub a s) ∧ agB n a s = !cyB n (sub a s) := by
  unfold isB agB
  rw [decide_eq_true ⟨h, h2⟩]
  simp
theorem r_contradiction_Agrees (n : Int) (n1 : Bool) (a : List (Int × Int)) (u1 : Tail) (n2 : Bool) (s : List Int) (u2 : Tail) (h : AH) :
    RCall Tryz.prog n_contradiction_Agrees [I n, .sl n1 a.length (prs a) u1, .sl n2 s.length (i64s s) u2] h (.bool (agB n a s)) := by
  refine RCall.of hm cF_contradiction_Agrees (by simp [g_contradiction_Agrees]) fun hw h' hl => ?_
  simp only [F_contradiction_Agrees, g_contradiction_Agrees, go_sem, ↓tq_n, ↓tq_e, ↓tq_r, ↓bq_n, ↓bq_e, ↓bq_r, ↓rq_n, ↓rq_r, ↓rq_e]
  refine CallG.mk (r_contradiction_Valid n n1 a u1 _) ?_
  by_cases h1 : Ev n a
  case neg =>
    rw [decide_eq_false h1]
    simp only [F_contradiction_Agrees, g_contradiction_Agrees, go_sem, ↓tq_n, ↓tq_e, ↓tq_r, ↓bq_n, ↓bq_e, ↓bq_r, ↓rq_n, ↓rq_r, ↓rq_e]
    exact ret_ok (by rw [(isB_no (fun hh => h1 hh.1)).2])
  rw [decide_eq_true h1]
  simp only [F_contradiction_Agrees, g_contradiction_Agrees, go_sem, ↓tq_n, ↓tq_e, ↓tq_r, ↓bq_n, ↓bq_e, ↓bq_r, ↓rq_n, ↓rq_r, ↓rq_e]
  refine CallG.mk (r_contradiction_valid n2 s u2 a.length _) ?_
  by_cases h2 : Ix a.length s
  case neg =>
    rw [decide_eq_false h2]
    simp only [F_contradiction_Agrees, g_contradiction_Agrees, go_sem, ↓tq_n, ↓tq_e, ↓tq_r, ↓bq_n, ↓bq_e, ↓bq_r, ↓rq_n, ↓rq_r, ↓rq_e]
    exact ret_ok (by rw [(isB_no (fun hh => h2 hh.2)).2])
  rw [decide_eq_true h2]
  obtain ⟨m, rfl⟩ := ev_nat h1
  simp only [F_contradiction_Agrees, g_contradiction_Agrees, go_sem, ↓tq_n, ↓tq_e, ↓tq_r, ↓bq_n, ↓bq_e, ↓bq_r, ↓rq_n, ↓rq_r, ↓rq_e]
  refine CallG.mk (r_contradiction_clashes m n1 a u1 h1 n2 s u2 h2 _) ?_
  simp only [F_contradiction_Agrees, g_contradiction_Agrees, go_sem, ↓tq_n, ↓tq_e, ↓tq_r, ↓bq_n, ↓bq_e, ↓bq_r, ↓rq_n, ↓rq_r, ↓rq_e]
  exact ret_ok (by rw [(isB_yes h1 h2).2])
/-- A set of indices: in order, and below a number. -/
theorem ix_pw {k : Int} {s : List Int} : Ix k s ↔ (∀ x ∈ s, 0 ≤ x ∧ x < k) ∧ s.Pairwise (· < ·) := by
  constructor
  · intro h
    refine ⟨fun x hx => ?_, ?_⟩
    · obtain ⟨j, hj, e⟩ := List.getElem_of_mem hx
      have := (h j hj).1
      rw [show s.getD j 0 = x by simp [List.getD, hj, e]] at this
      exact this
    · rw [List.pairwise_iff_getElem]
      have key : ∀ d i, i + d < s.length → 0 < d → s.getD i 0 < s.getD (i + d) 0 := by
        intro d
        induction d with
        | zero => intro i _ h0; omega
        | succ d ih =>
          intro i hi _
          have h2 := (h (i + d + 1) (by omega)).2 (by omega)
          rw [Nat.add_sub_cancel] at h2
          rcases Nat.eq_zero_or_pos d with rfl | hd
          · exact h2
          · exact Int.lt_trans (ih i (by omega) hd) h2
      intro i j hi hj hij
      have := key (j - i) i (by omega) (by omega)
      rw [show i + (j - i) = j by omega] at this
      simpa [List.getD, hi, hj] using this
  · rintro ⟨h1, h2⟩ i hi
    refine ⟨h1 _ (mem_getD hi), fun h0 => ?_⟩
    have := (List.pairwise_iff_getElem.1 h2) (i - 1) i (by omega) hi (by omega)
    simpa [List.getD, hi, show i - 1 < s.length by omega] using this
theorem ix_sub {k : Int} {s t : List Int} (h : Ix k s) (ht : t.Sublist s) : Ix k t := by
  rw [ix_pw] at *
  exact ⟨fun x hx => h.1 x (ht.subset hx), h.2.sublist ht⟩
theorem ix_erase {k : Int} {s : List Int} (h : Ix k s) (i : Nat) : Ix k (s.eraseIdx i) := ix_sub h (List.eraseIdx_sublist s i)
/-- A nil slice has no element. -/
theorem RCall.nil_vac {P : Program} {f : FuncId} {pre post : List AV} {n : Nat} {cells : List AV} {tl : Tail} {h : AH} {v : AV} (hok : callOK P f = true) (hn : 0 < n) : RCall P f (pre ++ .sl true n cells tl :: post) h v := by
  intro h' hl
  refine ⟨hok, fun s vs w hv hs => ?_⟩
  obtain ⟨u, h1, h2⟩ := hv.at_ (j := pre.length) (x := .sl true n cells tl) (by simp)
  exfalso
  cases h2 with
  | sl nl n cells tl a cap vs a1 a2 a3 a4 a5 a6 a7 a8 a9 =>
    cases a with
    | none => have := (a5 rfl).1; omega
    | some ad => cases a4
theorem s_slices_Clone_int (nl : Bool) (xs : List Int) (tl : Tail) (hnl : nl = false) (h1 : 1 ≤ xs.length) (hl1 : xs.length ≤ 1000) (h : AH) :
    ACalls Tryz.prog n_slices_Clone_int [.sl nl xs.length (i64s xs) tl] h fun r h' => ∃ b q, xs.length ≤ q ∧ h.blk b = none ∧ r = .msl b 0 xs.length (some q) ∧ h' = h.put b (i64s xs ++ List.replicate (q - xs.length) .undef) := by
  subst hnl
  refine ACalls.of hm cF_slices_Clone_int (by simp [g_slices_Clone_int]) fun hw => ?_
  simp only [F_slices_Clone_int, g_slices_Clone_int, go_sem, ↓tq_n, ↓tq_e, ↓tq_r, ↓bq_n, ↓bq_e, ↓bq_r, ↓rq_n, ↓rq_r, ↓rq_e]
  refine ⟨i64s_len _, by omega, by omega, by omega, GrowG.mk fun b q hq hb => ?_⟩
  simp only [F_slices_Clone_int, g_slices_Clone_int, go_sem, ↓tq_n, ↓tq_e, ↓tq_r, ↓bq_n, ↓bq_e, ↓bq_r, ↓rq_n, ↓rq_r, ↓rq_e]
  exact ⟨_, _, .refl _ _, b, q, hq, hb, rfl, rfl⟩
theorem ix_len {k : Nat} {s : List Int} (h : Ix k s) : s.length ≤ k := by
  have key : ∀ i, i < s.length → (i : Int) ≤ s.getD i 0 := by
    intro i
    induction i with
    | zero => intro hi; exact (h 0 hi).1.1
    | succ i ih =>
      intro hi
      have h1 := (h (i + 1) hi).2 (by omega)
      rw [Nat.add_sub_cancel] at h1
      have := ih (by omega)
      omega
  rcases Nat.eq_zero_or_pos s.length with e | e
  · omega
  · have := key (s.length - 1) (by omega)
    have h2 := (h (s.length - 1) (by omega)).1
    omega
def nats (l : List Nat) : List Int := l.map fun (k : Nat) => (k : Int)
theorem nats_succ (i : Nat) : nats (List.range (i + 1)) = nats (List.range i) ++ [(i : Int)] := by simp [nats, List.range_succ]
theorem allI_len (i : Nat) : (nats (List.range i)).length = i := by simp [nats]
end Go.Proofs.YtidmekdkfiljjaaGreat
namespace Go.Abs
open Go Go.Shelf Go.Proofs
set_option linter.unusedSimpArgs false
set_option linter.unusedVariables false

/-- Numbers in order. -/
def srt (l : List Int) : List Int := l.mergeSort fun x y => decide (x ≤ y)
theorem srt_perm (l : List Int) : (srt l).Perm l := List.mergeSort_perm _ _
theorem srt_len (l : List Int) : (srt l).length = l.length := (srt_perm l).length_eq
theorem srt_sorted (l : List Int) : (srt l).Pairwise (· ≤ ·) := by
  have := List.pairwise_mergeSort (le := fun x y : Int => decide (x ≤ y)) (fun a b c => by simp only [decide_eq_true_eq]; omega) (fun a b => by simp only [Bool.or_eq_true, decide_eq_true_eq]; omega) l
  exact this.imp fun h => of_decide_eq_true h

end Go.Abs
