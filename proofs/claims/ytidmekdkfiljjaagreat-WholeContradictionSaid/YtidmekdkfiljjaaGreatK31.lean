/- Calls of functions of this seat's program: the reference's search through all orders. No condition. -/
import Derived.Test.YtidmekdkfiljjaaGreatK30
import Derived.Test.YtidmekdkfiljjaaGreatK29
import Derived.Test.YtidmekdkfiljjaaGreatK25
import Derived.Test.YtidmekdkfiljjaaGreatK19
import Derived.Test.YtidmekdkfiljjaaGreatProg
namespace Go.Proofs.YtidmekdkfiljjaaGreat
open Go Go.Abs
set_option linter.unusedSimpArgs false
set_option linter.unusedVariables false
set_option maxRecDepth 20000

/-- Where a vertex stands. -/
def psK (o : List Int) (x : Int) : Nat → Nat
  | 0 => 0
  | k + 1 => if o.getD k 0 = x then k else psK o x k
def blR (a : List (Int × Int)) (o : List Int) (i : Nat) : Bool := decide (psK o (a.getD i (0, 0)).2 o.length < psK o (a.getD i (0, 0)).1 o.length)
theorem psK_at {q : List Nat} (hq : q.Nodup) {j : Nat} (hj : j < q.length) : ∀ k, j < k → k ≤ q.length → psK (nats q) (q.getD j 0 : Nat) k = j := by
  intro k
  induction k with
  | zero => intro h; omega
  | succ k ih =>
    intro h1 h2
    have hk : k < q.length := by omega
    have e : (nats q).getD k 0 = ((q.getD k 0 : Nat) : Int) := by simp [nats, List.getD, hk]
    unfold psK
    rw [e]
    by_cases hjk : k = j
    · subst hjk; rw [if_pos rfl]
    · have hne : ¬ ((q.getD k 0 : Nat) : Int) = ((q.getD j 0 : Nat) : Int) := fun hh => by
        have h3 : q.getD k 0 = q.getD j 0 := by omega
        have := (List.pairwise_iff_getElem.1 hq) j k (by omega) hk (by omega)
        simp [List.getD, hj, hk] at h3
        exact this h3.symm
      rw [if_neg hne]
      exact ih (by omega) (by omega)
theorem full_mem {n : Nat} {q : List Nat} (hq : Pre n q) (hl : q.length = n) {x : Nat} (hx : x < n) : x ∈ q := by
  refine Classical.byContradiction fun hn => ?_
  have := nd_lenN (n := n) (List.nodup_cons.2 ⟨hn, hq.1⟩) (fun y hy => by
    rcases List.mem_cons.1 hy with rfl | hy
    · exact hx
    · exact hq.2 y hy)
  simp at this
  omega
theorem blR_eq {n : Nat} {a : List (Int × Int)} (he : Ev n a) {q : List Nat} (hq : Pre n q) (hl : q.length = n) {i : Nat} (hi : i < a.length) : blR a (nats q) i = bB a q i := by
  obtain ⟨e1, e2, e3, e4⟩ := ev_k he hi
  obtain ⟨j, hj, ej⟩ := List.getElem_of_mem (full_mem hq hl e3)
  obtain ⟨k, hk, ek⟩ := List.getElem_of_mem (full_mem hq hl e2)
  have gj : q.getD j 0 = tt a i := by simp [List.getD, hj, ej]
  have gk : q.getD k 0 = fr a i := by simp [List.getD, hk, ek]
  have pj := psK_at hq.1 hj q.length hj (Nat.le_refl _)
  have pk := psK_at hq.1 hk q.length hk (Nat.le_refl _)
  rw [gj] at pj
  rw [gk] at pk
  unfold blR
  rw [e1, nats_len]
  simp only
  rw [pj, pk, Bool.eq_iff_iff, decide_eq_true_eq]
  unfold bB
  rw [List.any_eq_true]
  have huni : ∀ {x y : Nat}, x < q.length → y < q.length → q.getD x 0 = q.getD y 0 → x = y := fun {x y} hx hy he => by
    have h1 := psK_at hq.1 hx q.length hx (Nat.le_refl _)
    have h2 := psK_at hq.1 hy q.length hy (Nat.le_refl _)
    rw [he] at h1
    omega
  constructor
  · intro h
    refine ⟨k, List.mem_range.2 hk, ?_⟩
    rw [Bool.and_eq_true, decide_eq_true_eq, decide_eq_true_eq]
    refine ⟨gk, ?_⟩
    rw [List.mem_take_iff_getElem]
    exact ⟨j, by omega, ej⟩
  · rintro ⟨k', h1, h2⟩
    rw [Bool.and_eq_true, decide_eq_true_eq, decide_eq_true_eq, List.mem_take_iff_getElem] at h2
    obtain ⟨h3, j', h4, h5⟩ := h2
    have hk' := List.mem_range.1 h1
    have a1 : k' = k := huni hk' hk (by rw [h3, gk])
    have hj' : j' < q.length := by omega
    have a2 : j' = j := huni hj' hj (by rw [gj]; simp [List.getD, hj', h5])
    omega
theorem csK_app (w s t : List Int) : ∀ k, k ≤ s.length → csK w (s ++ t) k = csK w s k := by
  intro k
  induction k with
  | zero => intro _; rfl
  | succ k ih =>
    intro hk
    simp only [csK]
    rw [ih (by omega)]
    have : (s ++ t).getD k 0 = s.getD k 0 := by simp [List.getD, List.getElem?_append, show k < s.length by omega]
    rw [this]
theorem csK_filter (w : List Int) (P : Nat → Bool) : ∀ k, csK w (nats ((List.range k).filter P)) (nats ((List.range k).filter P)).length = sumK w P k := by
  intro k
  induction k with
  | zero => rfl
  | succ k ih =>
    rw [List.range_succ, List.filter_append, nats_append]
    simp only [sumK]
    cases hp : P k with
    | false => simp [hp, nats] at ih ⊢; exact ih
    | true =>
      have e : List.filter P [k] = [k] := by simp [hp]
      rw [e, List.length_append]
      have e2 : (nats [k]).length = 1 := rfl
      rw [e2]
      simp only [csK]
      rw [csK_app _ _ _ _ (Nat.le_refl _), ih]
      congr 1
      simp [nats, List.getD]
theorem cs_Bl (a : List (Int × Int)) (w : List Int) (q : List Nat) : csK w (nats (Bl a q)) (nats (Bl a q)).length = bc a w q := csK_filter w (bB a q) a.length
end Go.Proofs.YtidmekdkfiljjaaGreat
namespace Go.Proofs.YtidmekdkfiljjaaGreat
open Go Go.Abs
set_option linter.unusedSimpArgs false
set_option linter.unusedVariables false
set_option maxRecDepth 20000

theorem bc_bd {a : List (Int × Int)} {w : List Int} (hw : Wb a w) (p : List Nat) : 0 ≤ bc a w p ∧ bc a w p ≤ 24000000 := sum_bd hw (bB a p) (Nat.le_refl _)
end Go.Proofs.YtidmekdkfiljjaaGreat
namespace Go.Proofs.YtidmekdkfiljjaaGreat
open Go Go.Abs
set_option linter.unusedSimpArgs false
set_option linter.unusedVariables false
set_option maxRecDepth 20000

theorem r_slices_Values (nl : Bool) (l : List Int) (tl : Tail) (h : AH) : RCall Tryz.prog n_slices_Values_intX [.sl nl l.length (i64s l) tl] h (.fn 62 [.sptr [.sl nl l.length (i64s l) tl]]) := by
  refine RCall.of hm cF_slices_Values_intX (by simp [g_slices_Values_intX]) fun hw h' hl => ?_
  simp only [F_slices_Values_intX, g_slices_Values_intX, go_sem, ↓tq_n, ↓tq_e, ↓tq_r, ↓bq_n, ↓bq_e, ↓bq_r, ↓rq_n, ↓rq_r, ↓rq_e]
  exact ret_ok rfl
/-- An order of the vertices. -/
def Prm (o : List Int) (n : Nat) : Prop := o.length = n ∧ o.Nodup ∧ ∀ x ∈ o, 0 ≤ x ∧ x < n
instance (o : List Int) (n : Nat) : Decidable (Prm o n) := by unfold Prm; infer_instance
theorem ix_srt {o : List Int} {n : Nat} : Ix n (srt o) ↔ o.Nodup ∧ ∀ x ∈ o, 0 ≤ x ∧ x < n := by
  rw [ix_pw]
  constructor
  · rintro ⟨h1, h2⟩
    exact ⟨(srt_perm o).nodup_iff.1 (asc_nodup h2), fun x hx => h1 x (mem_srt.2 hx)⟩
  · rintro ⟨h1, h2⟩
    exact ⟨fun x hx => h2 x (mem_srt.1 hx), srt_ascN h1⟩
theorem prm_pre {o : List Int} {n : Nat} (h : Prm o n) : o = nats (o.map Int.toNat) ∧ Pre n (o.map Int.toNat) ∧ (o.map Int.toNat).length = n := by
  obtain ⟨h1, h2, h3⟩ := h
  refine ⟨?_, ⟨?_, fun v hv => ?_⟩, by simpa using h1⟩
  · unfold nats
    rw [List.map_map]
    refine (List.map_id o).symm.trans (List.map_congr_left fun x hx => ?_)
    have := h3 x hx
    simp only [Function.comp, id]
    omega
  · unfold List.Nodup
    rw [List.pairwise_map]
    refine List.Pairwise.imp_of_mem (fun {x y} hx hy hxy => ?_) h2
    have := h3 x hx
    have := h3 y hy
    omega
  · obtain ⟨x, hx, rfl⟩ := List.mem_map.1 hv
    have := h3 x hx
    omega
theorem prm_of {n : Nat} {q : List Nat} (h : Pre n q) (hl : q.length = n) : Prm (nats q) n := by
  refine ⟨by rw [nats_len]; exact hl, nats_nodup h.1, fun x hx => ?_⟩
  obtain ⟨k, rfl, hk⟩ := of_nats hx
  have := h.2 k hk
  omega
theorem nats_toNat (q : List Nat) : (nats q).map Int.toNat = q := by
  unfold nats
  rw [List.map_map]
  refine Eq.trans (List.map_congr_left fun x _ => ?_) (List.map_id q)
  simp
theorem r_base_Order (nl : Bool) (o : List Int) (tl : Tail) (n : Nat) (hn : n ≤ 1000) (h : AH) : RCall Tryz.prog n_base_Order [.sl nl o.length (i64s o) tl, I n] h (.bool (decide (Prm o n))) := by
  refine RCall.of hm cF_base_Order (by simp [g_base_Order]) fun hw h' hl => ?_
  by_cases c1 : o.length = n
  case neg =>
    have c1' : ¬ (o.length : Int) = (n : Int) := by omega
    simp only [c1', F_base_Order, g_base_Order, go_sem, ↓tq_n, ↓tq_e, ↓tq_r, ↓bq_n, ↓bq_e, ↓bq_r, ↓rq_n, ↓rq_r, ↓rq_e]
    exact ret_ok (by rw [decide_eq_false (fun hp : Prm o n => c1 hp.1)])
  have c1' : (o.length : Int) = (n : Int) := by omega
  simp only [decide_eq_true c1', F_base_Order, g_base_Order, go_sem, ↓tq_n, ↓tq_e, ↓tq_r, ↓bq_n, ↓bq_e, ↓bq_r, ↓rq_n, ↓rq_r, ↓rq_e]
  refine awp_loop (fun i : Nat => [(0, .sl nl o.length (i64s o) tl), (1, I n), (5, I i)]) (fun _ => h') (fun i => i ≤ n ∧ ∀ j, j < i → (0 ≤ o.getD j 0 ∧ o.getD j 0 < n) ∧ ∀ k, k < j → o.getD j 0 ≠ o.getD k 0) (fun i => n - i) 0 ⟨Nat.zero_le _, fun j hj => absurd hj (Nat.not_lt_zero _)⟩ (GStep.forget (by repeat' first | exact EnvLe.nil _ | refine EnvLe.cons (AV.le.of_eq rfl) ?_ | refine EnvLe.cons (AV.le.undef _) ?_ | refine EnvLe.cons AV.le.unk ?_) (by repeat' first | exact AH.le.refl _ | assumption | (refine AH.le_put ?_ (by first | assumption | exact (AH.blk_put_ne _ _ (by assumption)).trans (by assumption) | exact AH.none_put (by assumption) | exact AH.none_put (AH.none_put (by assumption)) | (simp only [AH.blk_setTok, AH.tok_put] at *; first | assumption | exact AH.none_put (by assumption)))) | (refine AH.le_setTok ?_ (by first | assumption | exact (AH.blk_put_ne _ _ (by assumption)).trans (by assumption) | exact AH.none_put (by assumption) | exact AH.none_put (AH.none_put (by assumption)) | (simp only [AH.blk_setTok, AH.tok_put] at *; first | assumption | exact AH.none_put (by assumption)))) | (refine AH.le_putM ?_ (by first | assumption | exact (AH.mp_putM_ne _ _ (by assumption)).trans (by assumption) | (simp only [AH.mp_put, AH.mp_setTok] at *; assumption))))) fun i hi => .of_vg hm ?_
  obtain ⟨h1, h2⟩ := hi
  by_cases h3 : i < n
  case neg =>
    have h3 : i = n := by omega
    subst h3
    have c0 : ¬ (i : Int) < (i : Int) := by omega
    simp only [c0, F_base_Order, g_base_Order, go_sem, ↓tq_n, ↓tq_e, ↓tq_r, ↓bq_n, ↓bq_e, ↓bq_r, ↓rq_n, ↓rq_r, ↓rq_e]
    refine ret_ok ?_
    rw [decide_eq_true]
    refine ⟨c1, ?_, fun x hx => ?_⟩
    · unfold List.Nodup
      rw [List.pairwise_iff_getElem]
      intro p q hp hq hpq
      have := (h2 q (by omega)).2 p hpq
      simp [List.getD, hp, hq] at this
      exact fun hh => this hh.symm
    · obtain ⟨j, hj, e⟩ := List.getElem_of_mem hx
      have := (h2 j (by omega)).1
      simp [List.getD, hj, e] at this
      exact this
  have hc : (i : Int) < (n : Int) := by omega
  have hco : (i : Int) < (o.length : Int) := by omega
  have hio : i < o.length := by omega
  have no : ¬ ((0 ≤ o.getD i 0 ∧ o.getD i 0 < n) ∧ ∀ k, k < i → o.getD i 0 ≠ o.getD k 0) → decide (Prm o n) = false := fun hn => decide_eq_false fun hp => hn ⟨hp.2.2 _ (mem_getD hio), fun k hk => by
    have := (List.pairwise_iff_getElem.1 hp.2.1) k i (by omega) hio hk
    simp [List.getD, hio, show k < o.length by omega]
    exact fun hh => this hh.symm⟩
  by_cases v1 : o.getD i 0 < 0
  · simp only [hc, hco, i64s_drop hio, v1, F_base_Order, g_base_Order, go_sem, ↓tq_n, ↓tq_e, ↓tq_r, ↓bq_n, ↓bq_e, ↓bq_r, ↓rq_n, ↓rq_r, ↓rq_e]
    exact ret_ok (by rw [no (fun hh => by have := hh.1; omega)])
  by_cases v2 : (n : Int) ≤ o.getD i 0
  · simp only [hc, hco, i64s_drop hio, v1, v2, F_base_Order, g_base_Order, go_sem, ↓tq_n, ↓tq_e, ↓tq_r, ↓bq_n, ↓bq_e, ↓bq_r, ↓rq_n, ↓rq_r, ↓rq_e]
    exact ret_ok (by rw [no (fun hh => by have := hh.1; omega)])
  simp only [hc, hco, i64s_drop hio, v1, v2, F_base_Order, g_base_Order, go_sem, ↓tq_n, ↓tq_e, ↓tq_r, ↓bq_n, ↓bq_e, ↓bq_r, ↓rq_n, ↓rq_r, ↓rq_e]
  refine awp_loop (fun k : Nat => [(0, .sl nl o.length (i64s o) tl), (1, I n), (5, I i), (6, I k)]) (fun _ => h') (fun k => k ≤ i ∧ ∀ j, j < k → o.getD i 0 ≠ o.getD j 0) (fun k => i - k) 0 ⟨Nat.zero_le _, fun j hj => absurd hj (Nat.not_lt_zero _)⟩ (GStep.forget (by repeat' first | exact EnvLe.nil _ | refine EnvLe.cons (AV.le.of_eq rfl) ?_ | refine EnvLe.cons (AV.le.undef _) ?_ | refine EnvLe.cons AV.le.unk ?_) (by repeat' first | exact AH.le.refl _ | assumption | (refine AH.le_put ?_ (by first | assumption | exact (AH.blk_put_ne _ _ (by assumption)).trans (by assumption) | exact AH.none_put (by assumption) | exact AH.none_put (AH.none_put (by assumption)) | (simp only [AH.blk_setTok, AH.tok_put] at *; first | assumption | exact AH.none_put (by assumption)))) | (refine AH.le_setTok ?_ (by first | assumption | exact (AH.blk_put_ne _ _ (by assumption)).trans (by assumption) | exact AH.none_put (by assumption) | exact AH.none_put (AH.none_put (by assumption)) | (simp only [AH.blk_setTok, AH.tok_put] at *; first | assumption | exact AH.none_put (by assumption)))) | (refine AH.le_putM ?_ (by first | assumption | exact (AH.mp_putM_ne _ _ (by assumption)).trans (by assumption) | (simp only [AH.mp_put, AH.mp_setTok] at *; assumption))))) fun k hk => .of_vg hm ?_
  obtain ⟨k1, k2⟩ := hk
  by_cases h4 : k < i
  · have hck : (k : Int) < (i : Int) := by omega
    have hko : (k : Int) < (o.length : Int) := by omega
    by_cases v3 : o.getD i 0 = o.getD k 0
    · simp only [hck, hco, hko, i64s_drop hio, i64s_drop (show k < o.length by omega), decide_eq_true v3, F_base_Order, g_base_Order, go_sem, ↓tq_n, ↓tq_e, ↓tq_r, ↓bq_n, ↓bq_e, ↓bq_r, ↓rq_n, ↓rq_r, ↓rq_e]
      exact ret_ok (by rw [no (fun hh => hh.2 k h4 v3)])
    · simp only [hck, hco, hko, i64s_drop hio, i64s_drop (show k < o.length by omega), v3, F_base_Order, g_base_Order, go_sem, ↓tq_n, ↓tq_e, ↓tq_r, ↓bq_n, ↓bq_e, ↓bq_r, ↓rq_n, ↓rq_r, ↓rq_e]
      exact ⟨by rw [inR64]; omega, k + 1, ⟨by omega, all_succ k2 v3⟩, by omega, (GStep.forget (by repeat' first | exact EnvLe.nil _ | refine EnvLe.cons (AV.le.of_eq rfl) ?_ | refine EnvLe.cons (AV.le.undef _) ?_ | refine EnvLe.cons AV.le.unk ?_) (by repeat' first | exact AH.le.refl _ | assumption | (refine AH.le_put ?_ (by first | assumption | exact (AH.blk_put_ne _ _ (by assumption)).trans (by assumption) | exact AH.none_put (by assumption) | exact AH.none_put (AH.none_put (by assumption)) | (simp only [AH.blk_setTok, AH.tok_put] at *; first | assumption | exact AH.none_put (by assumption)))) | (refine AH.le_setTok ?_ (by first | assumption | exact (AH.blk_put_ne _ _ (by assumption)).trans (by assumption) | exact AH.none_put (by assumption) | exact AH.none_put (AH.none_put (by assumption)) | (simp only [AH.blk_setTok, AH.tok_put] at *; first | assumption | exact AH.none_put (by assumption)))) | (refine AH.le_putM ?_ (by first | assumption | exact (AH.mp_putM_ne _ _ (by assumption)).trans (by assumption) | (simp only [AH.mp_put, AH.mp_setTok] at *; assumption)))))⟩
  have h4 : k = i := by omega
  subst h4
  have c0 : ¬ (k : Int) < (k : Int) := by omega
  simp only [c0, F_base_Order, g_base_Order, go_sem, ↓tq_n, ↓tq_e, ↓tq_r, ↓bq_n, ↓bq_e, ↓bq_r, ↓rq_n, ↓rq_r, ↓rq_e]
  exact ⟨by rw [inR64]; omega, k + 1, ⟨by omega, all_succ h2 ⟨⟨by omega, by omega⟩, k2⟩⟩, by omega, (GStep.forget (by repeat' first | exact EnvLe.nil _ | refine EnvLe.cons (AV.le.of_eq rfl) ?_ | refine EnvLe.cons (AV.le.undef _) ?_ | refine EnvLe.cons AV.le.unk ?_) (by repeat' first | exact AH.le.refl _ | assumption | (refine AH.le_put ?_ (by first | assumption | exact (AH.blk_put_ne _ _ (by assumption)).trans (by assumption) | exact AH.none_put (by assumption) | exact AH.none_put (AH.none_put (by assumption)) | (simp only [AH.blk_setTok, AH.tok_put] at *; first | assumption | exact AH.none_put (by assumption)))) | (refine AH.le_setTok ?_ (by first | assumption | exact (AH.blk_put_ne _ _ (by assumption)).trans (by assumption) | exact AH.none_put (by assumption) | exact AH.none_put (AH.none_put (by assumption)) | (simp only [AH.blk_setTok, AH.tok_put] at *; first | assumption | exact AH.none_put (by assumption)))) | (refine AH.le_putM ?_ (by first | assumption | exact (AH.mp_putM_ne _ _ (by assumption)).trans (by assumption) | (simp only [AH.mp_put, AH.mp_setTok] at *; assumption)))))⟩

def baV (n : Int) (a : List (Int × Int)) (w o : List Int) : AV := if chkE n a w = 0 then (if Prm o n.toNat then .tup [I (bc a w (o.map Int.toNat)), I 0] else .tup [I 0, I 2]) else .tup [I 0, I (chkE n a w)]
theorem take_snoc {q : List Nat} {k : Nat} (hk : k < q.length) : q.take (k + 1) = q.take k ++ [q.getD k 0] := take_getD 0 hk
theorem r_attribution_Back (n : Int) (n1 : Bool) (a : List (Int × Int)) (u1 : Tail) (n2 : Bool) (w : List Int) (u2 : Tail) (n3 : Bool) (o : List Int) (u3 : Tail) (hol : o.length ≤ 1000) (h : AH) : RCall Tryz.prog n_attribution_Back [I n, .sl n1 a.length (prs a) u1, .sl n2 w.length (i64s w) u2, .sl n3 o.length (i64s o) u3] h (baV n a w o) := by
  refine RCall.of hm cF_attribution_Back (by simp [g_attribution_Back]) fun hwf h' hl => ?_
  have hwo := wf_i64s (hwf _ (.tail _ (.tail _ (.tail _ (.head _)))))
  simp only [F_attribution_Back, g_attribution_Back, go_sem, ↓tq_n, ↓tq_e, ↓tq_r, ↓bq_n, ↓bq_e, ↓bq_r, ↓rq_n, ↓rq_r, ↓rq_e]
  refine CallG.mk (r_attribution_check n n1 a u1 n2 w u2 _) ?_
  by_cases c1 : chkE n a w = 0
  case neg =>
    simp only [c1, F_attribution_Back, g_attribution_Back, go_sem, ↓tq_n, ↓tq_e, ↓tq_r, ↓bq_n, ↓bq_e, ↓bq_r, ↓rq_n, ↓rq_r, ↓rq_e]
    exact ret_ok (by simp [baV, c1])
  have hok := chk_ok.1 c1
  obtain ⟨m, rfl⟩ := ev_nat hok.2.2.1
  have hw1 := okc_w1 hok
  have he := hok.2.2.1
  have hm9 : m ≤ 9 := by have := hok.1; omega
  by_cases c2 : o.length = m
  case neg =>
    have c2' : ¬ (o.length : Int) = (m : Int) := by omega
    simp only [c1, c2', F_attribution_Back, g_attribution_Back, go_sem, ↓tq_n, ↓tq_e, ↓tq_r, ↓bq_n, ↓bq_e, ↓bq_r, ↓rq_n, ↓rq_r, ↓rq_e]
    exact ret_ok (by unfold baV; rw [if_pos c1, Int.toNat_natCast, if_neg (fun hp : Prm o m => c2 hp.1)])
  have c2' : (o.length : Int) = (m : Int) := by omega
  simp only [c1, decide_eq_true c2', F_attribution_Back, g_attribution_Back, go_sem, ↓tq_n, ↓tq_e, ↓tq_r, ↓bq_n, ↓bq_e, ↓bq_r, ↓rq_n, ↓rq_r, ↓rq_e]
  refine CallG.mk (r_slices_Values n3 o u3 _) ?_
  simp only [F_attribution_Back, g_attribution_Back, go_sem, ↓tq_n, ↓tq_e, ↓tq_r, ↓bq_n, ↓bq_e, ↓bq_r, ↓rq_n, ↓rq_r, ↓rq_e]
  refine CallG.mk (r_slices_Sorted n3 o u3 (fun x hx => hwo x hx) (by omega) _) ?_
  simp only [F_attribution_Back, g_attribution_Back, go_sem, ↓tq_n, ↓tq_e, ↓tq_r, ↓bq_n, ↓bq_e, ↓bq_r, ↓rq_n, ↓rq_r, ↓rq_e]
  refine CallG.mk (r_attribution_indices _ (srt o) .unk m _) ?_
  by_cases c3 : Ix m (srt o)
  case neg =>
    rw [decide_eq_false c3]
    simp only [F_attribution_Back, g_attribution_Back, go_sem, ↓tq_n, ↓tq_e, ↓tq_r, ↓bq_n, ↓bq_e, ↓bq_r, ↓rq_n, ↓rq_r, ↓rq_e]
    exact ret_ok (by unfold baV; rw [if_pos c1, Int.toNat_natCast, if_neg (fun hp : Prm o m => c3 (ix_srt.2 hp.2))])
  rw [decide_eq_true c3]
  have hp : Prm o m := ⟨c2, ix_srt.1 c3⟩
  obtain ⟨p1, p2, p3⟩ := prm_pre hp
  have hba : baV m a w o = .tup [I (bc a w (o.map Int.toNat)), I 0] := by
    unfold baV; rw [if_pos c1, Int.toNat_natCast, if_pos hp]
  generalize o.map Int.toNat = q at p1 p2 p3 hba
  subst p1
  rw [hba]
  have hnl := nats_len q
  simp only [F_attribution_Back, g_attribution_Back, go_sem, ↓tq_n, ↓tq_e, ↓tq_r, ↓bq_n, ↓bq_e, ↓bq_r, ↓rq_n, ↓rq_r, ↓rq_e]
  refine awp_loop (fun k : Nat => [(0, I m), (1, .sl n1 a.length (prs a) u1), (2, .sl n2 w.length (i64s w) u2), (11, I (mk (q.take k))), (12, I (bc a w (q.take k))), (34, .sl n3 (nats q).length (i64s (nats q)) u3), (35, I (nats q).length), (36, I k)]) (fun _ => h') (fun k => k ≤ m) (fun k => m - k) 0 (Nat.zero_le _) (by rw [List.take_zero, bc_nil]; exact (GStep.forget (by repeat' first | exact EnvLe.nil _ | refine EnvLe.cons (AV.le.of_eq rfl) ?_ | refine EnvLe.cons (AV.le.undef _) ?_ | refine EnvLe.cons AV.le.unk ?_) (by repeat' first | exact AH.le.refl _ | assumption | (refine AH.le_put ?_ (by first | assumption | exact (AH.blk_put_ne _ _ (by assumption)).trans (by assumption) | exact AH.none_put (by assumption) | exact AH.none_put (AH.none_put (by assumption)) | (simp only [AH.blk_setTok, AH.tok_put] at *; first | assumption | exact AH.none_put (by assumption)))) | (refine AH.le_setTok ?_ (by first | assumption | exact (AH.blk_put_ne _ _ (by assumption)).trans (by assumption) | exact AH.none_put (by assumption) | exact AH.none_put (AH.none_put (by assumption)) | (simp only [AH.blk_setTok, AH.tok_put] at *; first | assumption | exact AH.none_put (by assumption)))) | (refine AH.le_putM ?_ (by first | assumption | exact (AH.mp_putM_ne _ _ (by assumption)).trans (by assumption) | (simp only [AH.mp_put, AH.mp_setTok] at *; assumption)))))) fun k hk => .of_vg hm ?_
  by_cases h3 : k < m
  case neg =>
    have h3 : k = m := by omega
    subst h3
    have hc : ¬ (k : Int) < ((nats q).length : Int) := by omega
    simp only [hc, F_attribution_Back, g_attribution_Back, go_sem, ↓tq_n, ↓tq_e, ↓tq_r, ↓bq_n, ↓bq_e, ↓bq_r, ↓rq_n, ↓rq_r, ↓rq_e]
    refine ret_ok ?_
    rw [List.take_of_length_le (by omega)]
  have hc : (k : Int) < ((nats q).length : Int) := by omega
  have hkq : k < q.length := by omega
  have hkn : k < (nats q).length := by omega
  have eg : (nats q).getD k 0 = ((q.getD k 0 : Nat) : Int) := by simp [nats, List.getD, hkq]
  have hvm : q.getD k 0 < m := p2.2 _ (mem_getD hkq)
  have hts := take_snoc hkq
  have hnt : q.getD k 0 ∉ q.take k := fun hh => by
    rw [List.mem_take_iff_getElem] at hh
    obtain ⟨j, hj, e⟩ := hh
    have := (List.pairwise_iff_getElem.1 p2.1) j k (by omega) hkq (by omega)
    simp [List.getD, hkq] at e
    exact this e
  have hbs := bc_snoc (a := a) (w := w) hnt
  have hms := mk_snoc (q.take k) (q.getD k 0)
  rw [← hts] at hbs hms
  have hmk : mk (q.take k) < 2 ^ m := mk_lt _ fun v hv => p2.2 v (List.mem_of_mem_take hv)
  have hM1 : 2 ^ m ≤ 512 := by
    have : 2 ^ m ≤ 2 ^ 9 := Nat.pow_le_pow_right (by omega) hm9
    simpa using this
  have hb1 := bc_bd hw1.wb (q.take k)
  have hb2 := bc_bd hw1.wb (q.take (k + 1))
  generalize q.getD k 0 = v at eg hvm hnt hbs hms
  have hv0 : (0 : Int) ≤ (v : Int) := by omega
  have e2 := shl_one (i := v) (by omega)
  have hp2 : 2 ^ v < 9223372036854775808 := by
    have : 2 ^ v ≤ 2 ^ 9 := Nat.pow_le_pow_right (by omega) (by omega)
    omega
  have e3 := Abs.bit_or (x := mk (q.take k)) (y := 2 ^ v) (by omega) hp2
  simp only [hc, i64s_drop hkn, eg, F_attribution_Back, g_attribution_Back, go_sem, ↓tq_n, ↓tq_e, ↓tq_r, ↓bq_n, ↓bq_e, ↓bq_r, ↓rq_n, ↓rq_r, ↓rq_e]
  refine CallG.mk (r_attribution_backward m n1 a u1 he _ w v (mk (q.take k)) hvm (by omega) hw1.wb _ (Rd.sl _ n2 w u2)) ?_
  simp only [hv0, e2, e3, F_attribution_Back, g_attribution_Back, go_sem, ↓tq_n, ↓tq_e, ↓tq_r, ↓bq_n, ↓bq_e, ↓bq_r, ↓rq_n, ↓rq_r, ↓rq_e]
  refine ⟨by rw [inR64]; omega, by rw [inR64]; omega, k + 1, by omega, by omega, ?_⟩
  rw [hbs, hms]
  exact (GStep.forget (by repeat' first | exact EnvLe.nil _ | refine EnvLe.cons (AV.le.of_eq rfl) ?_ | refine EnvLe.cons (AV.le.undef _) ?_ | refine EnvLe.cons AV.le.unk ?_) (by repeat' first | exact AH.le.refl _ | assumption | (refine AH.le_put ?_ (by first | assumption | exact (AH.blk_put_ne _ _ (by assumption)).trans (by assumption) | exact AH.none_put (by assumption) | exact AH.none_put (AH.none_put (by assumption)) | (simp only [AH.blk_setTok, AH.tok_put] at *; first | assumption | exact AH.none_put (by assumption)))) | (refine AH.le_setTok ?_ (by first | assumption | exact (AH.blk_put_ne _ _ (by assumption)).trans (by assumption) | exact AH.none_put (by assumption) | exact AH.none_put (AH.none_put (by assumption)) | (simp only [AH.blk_setTok, AH.tok_put] at *; first | assumption | exact AH.none_put (by assumption)))) | (refine AH.le_putM ?_ (by first | assumption | exact (AH.mp_putM_ne _ _ (by assumption)).trans (by assumption) | (simp only [AH.mp_put, AH.mp_setTok] at *; assumption)))))
end Go.Proofs.YtidmekdkfiljjaaGreat
namespace Go.Proofs.YtidmekdkfiljjaaGreat
open Go Go.Abs
set_option linter.unusedSimpArgs false
set_option linter.unusedVariables false
set_option maxRecDepth 20000

theorem mem_rsK {s : List Int} {i k : Nat} : k ∈ rsK s i ↔ k < i ∧ (k : Int) ∉ s := by
  unfold rsK
  rw [List.mem_filter, List.mem_range]
  simp
section
variable {n : Nat} {a : List (Int × Int)} (he : Ev n a)
include he
/-- Without its backward pieces an order leads on. -/
theorem bl_repairs {q : List Nat} (hq : Pre n q) (hl : q.length = n) {s : List Int} (hs : ∀ i, i < a.length → bB a q i = true → (i : Int) ∈ s) : cyB n (sub a (nats (rsK s a.length))) = false := by
  refine Bool.eq_false_iff.2 fun hc => ?_
  obtain ⟨ks, u, h1, h2, h3⟩ := (cy_iff he (rsK_ix s a.length)).1 hc
  have hpos : ∀ k, k < a.length → (k : Int) ∉ s → psK (nats q) (fr a k : Nat) q.length < psK (nats q) (tt a k : Nat) q.length := fun k hk hn => by
    have hb : bB a q k = false := Bool.eq_false_iff.2 fun hh => hn (hs k hk hh)
    obtain ⟨e1, e2, e3, e4⟩ := ev_k he hk
    rw [← blR_eq he hq hl hk] at hb
    unfold blR at hb
    rw [e1, nats_len, decide_eq_false_iff_not] at hb
    simp only at hb
    obtain ⟨j, hj, ej⟩ := List.getElem_of_mem (full_mem hq hl e3)
    obtain ⟨m, hm, em⟩ := List.getElem_of_mem (full_mem hq hl e2)
    have gj : q.getD j 0 = tt a k := by simp [List.getD, hj, ej]
    have gm : q.getD m 0 = fr a k := by simp [List.getD, hm, em]
    have pj := psK_at hq.1 hj q.length hj (Nat.le_refl _)
    have pm := psK_at hq.1 hm q.length hm (Nat.le_refl _)
    rw [gj] at pj
    rw [gm] at pm
    rcases Nat.lt_trichotomy m j with h | h | h
    · omega
    · subst h; rw [gj] at gm; exact absurd gm.symm e4
    · omega
  have hwalk : ∀ (ks : List Nat) (u v : Nat), ks ≠ [] → IW a u ks v → (∀ k ∈ ks, (k : Int) ∉ s) → psK (nats q) (u : Nat) q.length < psK (nats q) (v : Nat) q.length := by
    intro ks
    induction ks with
    | nil => intro u v h; exact absurd rfl h
    | cons k ks ih =>
      intro u v _ hw hn
      have h4 := hpos k hw.1 (hn k (by simp))
      rw [hw.2.1] at h4
      cases ks with
      | nil => have h5 := hw.2.2; rw [show tt a k = v from h5] at h4; exact h4
      | cons k2 ks =>
        have := ih (tt a k) v (by simp) hw.2.2 (fun j hj => hn j (by simp [hj]))
        omega
  have := hwalk ks u u h1 h2 fun k hk => (mem_rsK.1 (mem_nats.1 (h3 k hk))).2
  omega
/-- What agrees can be put in order. -/
theorem topo {s : List Int} (h : cyB n (sub a (nats (rsK s a.length))) = false) : ∃ o, Pre n o ∧ o.length = n ∧ ∀ i, i < a.length → bB a o i = true → (i : Int) ∈ s := by
  have hix := rsK_ix s a.length
  have hno : ∀ v, v < n → ¬ Way (arcE n (sub a (nats (rsK s a.length)))) v v := fun v hv hw => by
    rw [(cyB_iff (sub_arc he hix)).2 ⟨v, hv, hw⟩] at h
    cases h
  obtain ⟨o, ho⟩ : ∃ o, o = (List.range n).mergeSort fun x y => decide (anc (arcE n (sub a (nats (rsK s a.length)))) n x ≤ anc (arcE n (sub a (nats (rsK s a.length)))) n y) := ⟨_, rfl⟩
  have hperm : o.Perm (List.range n) := by rw [ho]; exact List.mergeSort_perm _ _
  have hsort : o.Pairwise fun x y => anc (arcE n (sub a (nats (rsK s a.length)))) n x ≤ anc (arcE n (sub a (nats (rsK s a.length)))) n y := by
    rw [ho]
    refine (List.pairwise_mergeSort (fun x y z h1 h2 => ?_) (fun x y => ?_) _).imp fun h => of_decide_eq_true h
    · have := of_decide_eq_true h1
      have := of_decide_eq_true h2
      exact decide_eq_true (by omega)
    · rw [Bool.or_eq_true, decide_eq_true_eq, decide_eq_true_eq]
      omega
  refine ⟨o, ⟨hperm.nodup_iff.2 List.nodup_range, fun v hv => List.mem_range.1 (hperm.mem_iff.1 hv)⟩, by rw [hperm.length_eq, List.length_range], fun i hi hb => ?_⟩
  refine Classical.byContradiction fun hn => ?_
  have harc : arcE n (sub a (nats (rsK s a.length))) (fr a i) (tt a i) := (sub_E he hix).2 ⟨i, mem_nats.2 (mem_rsK.2 ⟨hi, hn⟩), hi, rfl, rfl⟩
  have hf := (ev_k he hi).2.1
  have hlt := anc_lt (n := n) hf harc (hno _ hf)
  unfold bB at hb
  obtain ⟨k, h1, h2⟩ := List.any_eq_true.1 hb
  rw [Bool.and_eq_true, decide_eq_true_eq, decide_eq_true_eq, List.mem_take_iff_getElem] at h2
  obtain ⟨h3, j, h4, h5⟩ := h2
  have hk := List.mem_range.1 h1
  have hj : j < o.length := by omega
  have h6 := (List.pairwise_iff_getElem.1 hsort) j k hj hk (by omega)
  rw [h5, show o[k] = fr a i by rw [← h3]; simp [List.getD, hk]] at h6
  omega
end
theorem cs_set {a : List (Int × Int)} {w s : List Int} (h : Ix a.length s) : csK w s s.length = sumK w (fun i => decide ((i : Int) ∈ s)) a.length := by
  have e : s = nats ((List.range a.length).filter fun i : Nat => decide ((i : Int) ∈ s)) := by
    refine asc_ext (ix_pw.1 h).2 ?_ fun x => ?_
    · unfold nats
      rw [List.pairwise_map]
      exact ((List.pairwise_lt_range).sublist List.filter_sublist).imp fun h => by omega
    · constructor
      · intro hx
        have := (ix_pw.1 h).1 x hx
        obtain ⟨k, rfl⟩ : ∃ k : Nat, x = k := ⟨x.toNat, by omega⟩
        exact mem_nats.2 (List.mem_filter.2 ⟨List.mem_range.2 (by omega), decide_eq_true hx⟩)
      · intro hx
        obtain ⟨k, rfl, hk⟩ := of_nats hx
        exact of_decide_eq_true (List.mem_filter.1 hk).2
  have h2 := csK_filter w (fun i : Nat => decide ((i : Int) ∈ s)) a.length
  rw [← e] at h2
  exact h2
theorem Bl_ix (a : List (Int × Int)) (q : List Nat) : Ix a.length (nats (Bl a q)) := by
  rw [ix_pw]
  refine ⟨fun x hx => ?_, Bl_asc a q⟩
  obtain ⟨k, rfl, hk⟩ := of_nats hx
  have := (mem_Bl.1 hk).1
  omega
section
variable {n : Nat} {a : List (Int × Int)} {w : List Int} (hok : Okc n a w)
include hok
/-- What repairs costs at least as much. -/
theorem rp_ge {s : List Int} (h : rpB n a w s = true) : tot n a w ≤ csK w s s.length := by
  obtain ⟨⟨_, hix⟩, hc⟩ := rpB_iff.1 h
  obtain ⟨o, o1, o2, o3⟩ := topo hok.2.2.1 hc
  have h1 := (tot_min (n := n) (okc_w1 hok).ok).2.1 o o1 o2
  rw [cs_set hix]
  have h2 := sumK_sub (w := w) (P := bB a o) (Q := fun i => decide ((i : Int) ∈ s)) (k := a.length) (okc_w1 hok).ok (fun i hi hb => decide_eq_true (o3 i hi hb))
  have : bc a w o = sumK w (bB a o) a.length := rfl
  omega
theorem bl_rp {q : List Nat} (hq : Pre n q) (hl : q.length = n) : rpB n a w (nats (Bl a q)) = true :=
  rpB_iff.2 ⟨⟨hok, Bl_ix a q⟩, bl_repairs hok.2.2.1 hq hl fun i hi hb => mem_nats.2 (mem_Bl.2 ⟨hi, hb⟩)⟩
/-- No part of the cheapest set repairs. -/
theorem less_rp {q : List Nat} (hq : Opt n a w q) {i : Nat} (hi : i < (nats (Bl a q)).length) : rpB n a w ((nats (Bl a q)).eraseIdx i) = false := by
  refine Bool.eq_false_iff.2 fun h => ?_
  have h1 := rp_ge hok h
  have hix := Bl_ix a q
  have hixe := ix_erase hix i
  rw [cs_set hixe] at h1
  have h2 : tot n a w = sumK w (fun i => decide ((i : Int) ∈ nats (Bl a q))) a.length := by
    rw [← cs_set hix, cs_Bl, hq.2.2]
  have hw1 := okc_w1 hok
  obtain ⟨k, hke, hk⟩ := of_nats (mem_getD (d := 0) hi)
  have hka := (mem_Bl.1 hk).1
  have hnot : (k : Int) ∉ (nats (Bl a q)).eraseIdx i := fun hh => by
    rw [List.mem_eraseIdx_iff_getElem] at hh
    obtain ⟨j, hj, hne, e⟩ := hh
    have hnd := asc_nodup (Bl_asc a q)
    have e2 : (nats (Bl a q))[i] = (k : Int) := by rw [← hke]; simp [List.getD, hi]
    rcases Nat.lt_trichotomy i j with h3 | h3 | h3
    · exact (List.pairwise_iff_getElem.1 hnd) i j hi hj h3 (by rw [e2, e])
    · exact hne h3.symm
    · exact (List.pairwise_iff_getElem.1 hnd) j i hj hi h3 (by rw [e2, e])
  have := sumK_lt (w := w) (P := fun i_1 => decide ((i_1 : Int) ∈ (nats (Bl a q)).eraseIdx i)) (Q := fun i => decide ((i : Int) ∈ nats (Bl a q))) (k := a.length) (fun m hm => by have := hw1.2.2 m hm; omega)
    (fun m _ hm => decide_eq_true ((List.eraseIdx_sublist _ i).subset (of_decide_eq_true hm))) hka (decide_eq_true (mem_nats.2 hk)) (decide_eq_false hnot)
  omega
end
end Go.Proofs.YtidmekdkfiljjaaGreat
namespace Go.Proofs.YtidmekdkfiljjaaGreat
open Go Go.Abs
set_option linter.unusedSimpArgs false
set_option linter.unusedVariables false
set_option maxRecDepth 20000

def swp (a : List (Int × Int)) : List (Int × Int) := a.map fun p => (p.2, p.1)
theorem swp_len (a : List (Int × Int)) : (swp a).length = a.length := by simp [swp]
theorem swp_get {a : List (Int × Int)} {i : Nat} (h : i < a.length) : (swp a).getD i (0, 0) = ((a.getD i (0, 0)).2, (a.getD i (0, 0)).1) := by simp [swp, List.getD, h]
theorem swp_arc {n : Nat} {a : List (Int × Int)} (ha : ∀ i, i < a.length → Arc n (a.getD i (0, 0))) : ∀ i, i < (swp a).length → Arc n ((swp a).getD i (0, 0)) := fun i hi => by
  rw [swp_len] at hi
  rw [swp_get hi]
  have := ha i hi
  unfold Arc at *
  exact ⟨this.2.2.1, this.2.2.2, this.1, this.2.1⟩
theorem swp_sc {n : Nat} {a : List (Int × Int)} (ha : ∀ i, i < a.length → Arc n (a.getD i (0, 0))) (k y : Nat) : ((nxt n (swp a) a.length).getD k 0).testBit y = true ↔ ∃ i, i < a.length ∧ tt a i = k ∧ fr a i = y := by
  have h := sc_nxt (swp_arc ha) k y
  rw [swp_len] at h
  refine h.trans ⟨fun ⟨i, h1, h2, h3⟩ => ⟨i, h1, ?_, ?_⟩, fun ⟨i, h1, h2, h3⟩ => ⟨i, h1, ?_, ?_⟩⟩
  all_goals (unfold fr tt at *; rw [swp_get h1] at *; assumption)
theorem orP_iff {a : List (Int × Int)} {out : List Nat} {k : Nat} : orP a out k = true ↔ k ∉ out ∧ ∀ i, i < a.length → tt a i = k → fr a i ∈ out := by
  unfold orP; rw [Bool.and_eq_true, decide_eq_true_iff, decide_eq_true_iff]
theorem orN_some {n : Nat} {a : List (Int × Int)} {out : List Nat} {k : Nat} (hk : k < n) (h1 : orP a out k = true) (h2 : ∀ z, z < k → orP a out z = false) : orN n a out = some k := by
  obtain ⟨y, y1, y2, y3, y4⟩ := find_range hk h1
  have : y = k := by
    rcases Nat.lt_trichotomy y k with h | h | h
    · rw [h2 y h] at y3; cases y3
    · exact h
    · rw [y4 k h] at h1; cases h1
  unfold orN
  rw [y1, this]
theorem orF_succ (n : Nat) (a : List (Int × Int)) (r : Nat) (out : List Nat) : orF n a (r + 1) out = match orN n a out with
    | none => none
    | some k => orF n a r (out ++ [k]) := rfl
set_option maxHeartbeats 4000000 in
theorem r_poset_Order (n : Nat) (nl : Bool) (a : List (Int × Int)) (tl : Tail) (hal : a.length ≤ 100000) (hd : P.Dg n a) (o : List Nat) (ho : orF n a n [] = some o) (h : AH) : RCall Tryz.prog n_poset_Order [I n, .sl nl a.length (prs a) tl] h (.tup [gl (i64s (nats o)) o.length .unk, I 0]) := by
  refine RCall.of hm cF_poset_Order (by simp [g_poset_Order]) fun hw h' hl => ?_
  have hn : n ≤ 24 := by have := hd.2.1; omega
  have ha := hd.arc
  simp only [F_poset_Order, g_poset_Order, go_sem, ↓tq_n, ↓tq_e, ↓tq_r, ↓bq_n, ↓bq_e, ↓bq_r, ↓rq_n, ↓rq_r, ↓rq_e]
  refine CallG.mk (P.r_poset_Valid n nl a tl _) ?_
  rw [decide_eq_true hd]
  simp only [F_poset_Order, g_poset_Order, go_sem, ↓tq_n, ↓tq_e, ↓tq_r, ↓bq_n, ↓bq_e, ↓bq_r, ↓rq_n, ↓rq_r, ↓rq_e]
  refine MakeG.mk (by omega) (Int.le_refl _) (by omega) (by omega) fun b hb => ?_
  rw [flat_rep]
  simp only [F_poset_Order, g_poset_Order, go_sem, ↓tq_n, ↓tq_e, ↓tq_r, ↓bq_n, ↓bq_e, ↓bq_r, ↓rq_n, ↓rq_r, ↓rq_e]
  refine awp_loop (fun i : Nat => [(0, I n), (1, .sl nl a.length (prs a) tl), (6, .msl b 0 n (some n)), (18, .sl nl a.length (prs a) tl), (19, I a.length), (20, I i)]) (fun i => h'.put b (u32s (nxt n (swp a) i))) (fun i => i ≤ a.length) (fun i => a.length - i) 0 (Nat.zero_le _) (by simp only [nxt, u32s, List.map_replicate]; exact (GStep.forget (by repeat' first | exact EnvLe.nil _ | refine EnvLe.cons (AV.le.of_eq rfl) ?_ | refine EnvLe.cons (AV.le.undef _) ?_ | refine EnvLe.cons AV.le.unk ?_) (by repeat' first | exact AH.le.refl _ | assumption | (refine AH.le_put ?_ (by first | assumption | exact (AH.blk_put_ne _ _ (by assumption)).trans (by assumption) | exact AH.none_put (by assumption) | exact AH.none_put (AH.none_put (by assumption)) | (simp only [AH.blk_setTok, AH.tok_put] at *; first | assumption | exact AH.none_put (by assumption)))) | (refine AH.le_setTok ?_ (by first | assumption | exact (AH.blk_put_ne _ _ (by assumption)).trans (by assumption) | exact AH.none_put (by assumption) | exact AH.none_put (AH.none_put (by assumption)) | (simp only [AH.blk_setTok, AH.tok_put] at *; first | assumption | exact AH.none_put (by assumption)))) | (refine AH.le_putM ?_ (by first | assumption | exact (AH.mp_putM_ne _ _ (by assumption)).trans (by assumption) | (simp only [AH.mp_put, AH.mp_setTok] at *; assumption)))))) fun i hi => .of_vg hm ?_
  by_cases h5 : i < a.length
  · have hc : (i : Int) < (a.length : Int) := by omega
    have hx := ha i h5
    unfold Arc at hx
    have hp : (a.getD i (0, 0)).2.toNat < (nxt n (swp a) i).length := by rw [nxt_len]; omega
    have e1 := shl32_one (i := (a.getD i (0, 0)).1.toNat) (by omega)
    have hsm := nxt_sm hn (a := swp a) (fun k hk => (swp_arc ha k hk).2.2.2) i (by rw [swp_len]; exact hi)
    have hpow := pow32 (show (a.getD i (0, 0)).1.toNat < 32 by omega)
    have e2 := bitu32_or (hsm (a.getD i (0, 0)).2.toNat) hpow
    simp only [hc, prs_drop h5, u32s_drop hp, e1, e2, F_poset_Order, g_poset_Order, go_sem, ↓tq_n, ↓tq_e, ↓tq_r, ↓bq_n, ↓bq_e, ↓bq_r, ↓rq_n, ↓rq_r, ↓rq_e]
    have e3 : u32s (nxt n (swp a) (i + 1)) = (u32s (nxt n (swp a) i)).set (a.getD i (0, 0)).2.toNat (AV.int IntKind.u32 ((((nxt n (swp a) i).getD (a.getD i (0, 0)).2.toNat 0 ||| 2 ^ (a.getD i (0, 0)).1.toNat : Nat)) : Int)) := by
      simp only [nxt, u32s, List.map_set, swp_get h5]
    refine ⟨hx.2.2.1, hx.2.2.2, hx.1, hx.2.2.1, hx.2.2.2, by rw [u32s_len]; omega, by rw [inR64]; omega, i + 1, by omega, by omega, ?_⟩
    rw [e3]
    exact (GStep.forget (by repeat' first | exact EnvLe.nil _ | refine EnvLe.cons (AV.le.of_eq rfl) ?_ | refine EnvLe.cons (AV.le.undef _) ?_ | refine EnvLe.cons AV.le.unk ?_) (by repeat' first | exact AH.le.refl _ | assumption | (refine AH.le_put ?_ (by first | assumption | exact (AH.blk_put_ne _ _ (by assumption)).trans (by assumption) | exact AH.none_put (by assumption) | exact AH.none_put (AH.none_put (by assumption)) | (simp only [AH.blk_setTok, AH.tok_put] at *; first | assumption | exact AH.none_put (by assumption)))) | (refine AH.le_setTok ?_ (by first | assumption | exact (AH.blk_put_ne _ _ (by assumption)).trans (by assumption) | exact AH.none_put (by assumption) | exact AH.none_put (AH.none_put (by assumption)) | (simp only [AH.blk_setTok, AH.tok_put] at *; first | assumption | exact AH.none_put (by assumption)))) | (refine AH.le_putM ?_ (by first | assumption | exact (AH.mp_putM_ne _ _ (by assumption)).trans (by assumption) | (simp only [AH.mp_put, AH.mp_setTok] at *; assumption)))))
  have h5 : i = a.length := by omega
  subst h5
  have hsl : (nxt n (swp a) a.length).length = n := nxt_len _ _ _
  have hsm : ∀ z, (nxt n (swp a) a.length).getD z 0 < 4294967296 := nxt_sm hn (a := swp a) (fun k hk => (swp_arc ha k hk).2.2.2) a.length (by rw [swp_len]; exact Nat.le_refl _)
  have hsc := fun k => swp_sc ha k
  generalize nxt n (swp a) a.length = sc at hsl hsm hsc ⊢
  simp only [F_poset_Order, g_poset_Order, go_sem, ↓tq_n, ↓tq_e, ↓tq_r, ↓bq_n, ↓bq_e, ↓bq_r, ↓rq_n, ↓rq_r, ↓rq_e]
  refine awp_tok 10 1 (nl := true) (n := 0) (cs := []) rfl fun t ht => ?_
  refine awp_loop (α := List Nat × Nat) (fun y => [(0, I n), (6, .msl b 0 n (some n)), (9, .int .u32 y.2), (10, gl (i64s (nats y.1)) y.1.length (.tok t))]) (fun y => (h'.put b (u32s sc)).setTok t y.1.length 1) (fun y => Pre n y.1 ∧ y.1.length ≤ n ∧ (∀ z, y.2.testBit z = true ↔ z ∈ y.1) ∧ orF n a (n - y.1.length) y.1 = some o) (fun y => n - y.1.length) ([], 0) ⟨⟨List.nodup_nil, by simp⟩, by simp, by simp, by simpa using ho⟩ (GStep.forget (by repeat' first | exact EnvLe.nil _ | refine EnvLe.cons (AV.le.of_eq rfl) ?_ | refine EnvLe.cons (AV.le.undef _) ?_ | refine EnvLe.cons AV.le.unk ?_) (by repeat' first | exact AH.le.refl _ | assumption | (refine AH.le_put ?_ (by first | assumption | exact (AH.blk_put_ne _ _ (by assumption)).trans (by assumption) | exact AH.none_put (by assumption) | exact AH.none_put (AH.none_put (by assumption)) | (simp only [AH.blk_setTok, AH.tok_put] at *; first | assumption | exact AH.none_put (by assumption)))) | (refine AH.le_setTok ?_ (by first | assumption | exact (AH.blk_put_ne _ _ (by assumption)).trans (by assumption) | exact AH.none_put (by assumption) | exact AH.none_put (AH.none_put (by assumption)) | (simp only [AH.blk_setTok, AH.tok_put] at *; first | assumption | exact AH.none_put (by assumption)))) | (refine AH.le_putM ?_ (by first | assumption | exact (AH.mp_putM_ne _ _ (by assumption)).trans (by assumption) | (simp only [AH.mp_put, AH.mp_setTok] at *; assumption))))) fun y hy => .of_vg hm ?_
  obtain ⟨out, D⟩ := y
  obtain ⟨k1, k2, k3, k4⟩ := hy
  simp only at k1 k2 k3 k4 ⊢
  by_cases c4 : out.length < n
  case neg =>
    have c5 : out.length = n := by omega
    have c4' : ¬ (out.length : Int) < (n : Int) := by omega
    simp only [c4', F_poset_Order, g_poset_Order, go_sem, ↓tq_n, ↓tq_e, ↓tq_r, ↓bq_n, ↓bq_e, ↓bq_r, ↓rq_n, ↓rq_r, ↓rq_e]
    have e5 : n - out.length = 0 := by omega
    rw [e5] at k4
    have : out = o := Option.some.inj k4
    subst this
    refine ret_le (by repeat' first | exact AH.le.refl _ | assumption | (refine AH.le_put ?_ (by first | assumption | exact (AH.blk_put_ne _ _ (by assumption)).trans (by assumption) | exact AH.none_put (by assumption) | exact AH.none_put (AH.none_put (by assumption)) | (simp only [AH.blk_setTok, AH.tok_put] at *; first | assumption | exact AH.none_put (by assumption)))) | (refine AH.le_setTok ?_ (by first | assumption | exact (AH.blk_put_ne _ _ (by assumption)).trans (by assumption) | exact AH.none_put (by assumption) | exact AH.none_put (AH.none_put (by assumption)) | (simp only [AH.blk_setTok, AH.tok_put] at *; first | assumption | exact AH.none_put (by assumption)))) | (refine AH.le_putM ?_ (by first | assumption | exact (AH.mp_putM_ne _ _ (by assumption)).trans (by assumption) | (simp only [AH.mp_put, AH.mp_setTok] at *; assumption)))) ?_
    exact .tup2 .glU (.refl _)
  have c4' : (out.length : Int) < (n : Int) := by omega
  obtain ⟨r, hr⟩ : ∃ r, n - out.length = r + 1 := ⟨n - out.length - 1, by omega⟩
  rw [hr, orF_succ] at k4
  have hD : D < 4294967296 := bits32 (n := n) (by omega) (fun z hz => k1.2 z ((k3 z).1 hz))
  simp only [c4', F_poset_Order, g_poset_Order, go_sem, ↓tq_n, ↓tq_e, ↓tq_r, ↓bq_n, ↓bq_e, ↓bq_r, ↓rq_n, ↓rq_r, ↓rq_e]
  refine awp_loop (fun k : Nat => [(0, I n), (6, .msl b 0 n (some n)), (9, .int .u32 D), (10, gl (i64s (nats out)) out.length (.tok t)), (11, I k)]) (fun _ => (h'.put b (u32s sc)).setTok t out.length 1) (fun k => k ≤ n ∧ ∀ z, z < k → orP a out z = false) (fun k => n - k) 0 ⟨Nat.zero_le _, fun z hz => absurd hz (Nat.not_lt_zero _)⟩ (GStep.forget (by repeat' first | exact EnvLe.nil _ | refine EnvLe.cons (AV.le.of_eq rfl) ?_ | refine EnvLe.cons (AV.le.undef _) ?_ | refine EnvLe.cons AV.le.unk ?_) (by repeat' first | exact AH.le.refl _ | assumption | (refine AH.le_put ?_ (by first | assumption | exact (AH.blk_put_ne _ _ (by assumption)).trans (by assumption) | exact AH.none_put (by assumption) | exact AH.none_put (AH.none_put (by assumption)) | (simp only [AH.blk_setTok, AH.tok_put] at *; first | assumption | exact AH.none_put (by assumption)))) | (refine AH.le_setTok ?_ (by first | assumption | exact (AH.blk_put_ne _ _ (by assumption)).trans (by assumption) | exact AH.none_put (by assumption) | exact AH.none_put (AH.none_put (by assumption)) | (simp only [AH.blk_setTok, AH.tok_put] at *; first | assumption | exact AH.none_put (by assumption)))) | (refine AH.le_putM ?_ (by first | assumption | exact (AH.mp_putM_ne _ _ (by assumption)).trans (by assumption) | (simp only [AH.mp_put, AH.mp_setTok] at *; assumption))))) fun k hk => .of_vg hm ?_
  obtain ⟨u1, u2⟩ := hk
  by_cases c6 : k < n
  case neg =>
    have hN : orN n a out = none := List.find?_eq_none.2 fun z hz => by rw [u2 z (by have := List.mem_range.1 hz; omega)]; exact Bool.false_ne_true
    rw [hN] at k4
    cases k4
  have c6' : (k : Int) < (n : Int) := by omega
  have hno : orP a out k = false → ∀ z, z < k + 1 → orP a out z = false := fun hh z hz => by
    rcases lt_succ_cases hz with h5 | rfl
    · exact u2 z h5
    · exact hh
  simp only [c6', F_poset_Order, g_poset_Order, go_sem, ↓tq_n, ↓tq_e, ↓tq_r, ↓bq_n, ↓bq_e, ↓bq_r, ↓rq_n, ↓rq_r, ↓rq_e]
  refine CallG.mk (P.r_poset_has hD (by omega) _) ?_
  cases hb1 : D.testBit k with
  | true =>
    simp only [F_poset_Order, g_poset_Order, go_sem, ↓tq_n, ↓tq_e, ↓tq_r, ↓bq_n, ↓bq_e, ↓bq_r, ↓rq_n, ↓rq_r, ↓rq_e]
    refine ⟨by rw [inR64]; omega, k + 1, ⟨by omega, hno (Bool.eq_false_iff.2 fun hh => (orP_iff.1 hh).1 ((k3 k).1 hb1))⟩, by omega, (GStep.forget (by repeat' first | exact EnvLe.nil _ | refine EnvLe.cons (AV.le.of_eq rfl) ?_ | refine EnvLe.cons (AV.le.undef _) ?_ | refine EnvLe.cons AV.le.unk ?_) (by repeat' first | exact AH.le.refl _ | assumption | (refine AH.le_put ?_ (by first | assumption | exact (AH.blk_put_ne _ _ (by assumption)).trans (by assumption) | exact AH.none_put (by assumption) | exact AH.none_put (AH.none_put (by assumption)) | (simp only [AH.blk_setTok, AH.tok_put] at *; first | assumption | exact AH.none_put (by assumption)))) | (refine AH.le_setTok ?_ (by first | assumption | exact (AH.blk_put_ne _ _ (by assumption)).trans (by assumption) | exact AH.none_put (by assumption) | exact AH.none_put (AH.none_put (by assumption)) | (simp only [AH.blk_setTok, AH.tok_put] at *; first | assumption | exact AH.none_put (by assumption)))) | (refine AH.le_putM ?_ (by first | assumption | exact (AH.mp_putM_ne _ _ (by assumption)).trans (by assumption) | (simp only [AH.mp_put, AH.mp_setTok] at *; assumption)))))⟩
  | false =>
    have hks : k < sc.length := by omega
    obtain ⟨Y, y1, y2, y3⟩ := bitu32_not (hsm k) hD
    by_cases c7 : Y = 0
    · subst c7
      have hz : ((0 : Nat) : Int) = 0 := rfl
      have hok : orP a out k = true := orP_iff.2 ⟨fun hh => (by rw [(k3 k).2 hh] at hb1; cases hb1), fun i hi he => by
        refine Classical.byContradiction fun hf => ?_
        have h6 := (hsc k (fr a i)).2 ⟨i, hi, he, rfl⟩
        have h7 := y3 (fr a i)
        rw [h6, Nat.zero_testBit] at h7
        cases h8 : D.testBit (fr a i) with
        | true => exact hf ((k3 _).1 h8)
        | false => rw [h8] at h7; cases h7⟩
      rw [orN_some c6 hok u2] at k4
      have c8 : ¬ (k : Int) = (n : Int) := by omega
      have e1 := shl32_one (i := k) (by omega)
      have e2 := bitu32_or hD (pow32 (show k < 32 by omega))
      simp only [u32s_drop hks, y1, hz, c8, e1, e2, F_poset_Order, g_poset_Order, go_sem, ↓tq_n, ↓tq_e, ↓tq_r, ↓bq_n, ↓bq_e, ↓bq_r, ↓rq_n, ↓rq_r, ↓rq_e]
      refine ⟨by omega, by rw [i64s_len, nats_len], by omega, by omega, (out ++ [k], D ||| 2 ^ k), ⟨k1.snoc c6 (orP_iff.1 hok).1, by simp; omega, fun z => ?_, ?_⟩, by simp; omega, ?_⟩
      · rw [bit_or, Bool.or_eq_true, decide_eq_true_iff, k3, List.mem_append, List.mem_singleton]
        exact ⟨fun hh => hh.imp id Eq.symm, fun hh => hh.imp id Eq.symm⟩
      · have e9 : n - (out ++ [k]).length = r := by simp; omega
        simp only [e9]
        exact k4
      · simp only [nats_append, i64s_append, List.length_append]
        exact (GStep.forget (by repeat' first | exact EnvLe.nil _ | refine EnvLe.cons (AV.le.of_eq rfl) ?_ | refine EnvLe.cons (AV.le.undef _) ?_ | refine EnvLe.cons AV.le.unk ?_) (by repeat' first | exact AH.le.refl _ | assumption | (refine AH.le_put ?_ (by first | assumption | exact (AH.blk_put_ne _ _ (by assumption)).trans (by assumption) | exact AH.none_put (by assumption) | exact AH.none_put (AH.none_put (by assumption)) | (simp only [AH.blk_setTok, AH.tok_put] at *; first | assumption | exact AH.none_put (by assumption)))) | (refine AH.le_setTok ?_ (by first | assumption | exact (AH.blk_put_ne _ _ (by assumption)).trans (by assumption) | exact AH.none_put (by assumption) | exact AH.none_put (AH.none_put (by assumption)) | (simp only [AH.blk_setTok, AH.tok_put] at *; first | assumption | exact AH.none_put (by assumption)))) | (refine AH.le_putM ?_ (by first | assumption | exact (AH.mp_putM_ne _ _ (by assumption)).trans (by assumption) | (simp only [AH.mp_put, AH.mp_setTok] at *; assumption)))))
    · have c7' : ¬ (Y : Int) = 0 := by omega
      have hbad : orP a out k = false := Bool.eq_false_iff.2 fun hh => by
        obtain ⟨y, hy⟩ := Nat.exists_testBit_of_ne_zero c7
        rw [y3, Bool.and_eq_true] at hy
        obtain ⟨i, hi, he, hfi⟩ := (hsc k y).1 hy.1
        have h6 := (orP_iff.1 hh).2 i hi he
        rw [hfi, ← k3] at h6
        rw [h6] at hy; cases hy.2
      simp only [u32s_drop hks, y1, c7', F_poset_Order, g_poset_Order, go_sem, ↓tq_n, ↓tq_e, ↓tq_r, ↓bq_n, ↓bq_e, ↓bq_r, ↓rq_n, ↓rq_r, ↓rq_e]
      exact ⟨by omega, by rw [inR64]; omega, k + 1, ⟨by omega, hno hbad⟩, by omega, (GStep.forget (by repeat' first | exact EnvLe.nil _ | refine EnvLe.cons (AV.le.of_eq rfl) ?_ | refine EnvLe.cons (AV.le.undef _) ?_ | refine EnvLe.cons AV.le.unk ?_) (by repeat' first | exact AH.le.refl _ | assumption | (refine AH.le_put ?_ (by first | assumption | exact (AH.blk_put_ne _ _ (by assumption)).trans (by assumption) | exact AH.none_put (by assumption) | exact AH.none_put (AH.none_put (by assumption)) | (simp only [AH.blk_setTok, AH.tok_put] at *; first | assumption | exact AH.none_put (by assumption)))) | (refine AH.le_setTok ?_ (by first | assumption | exact (AH.blk_put_ne _ _ (by assumption)).trans (by assumption) | exact AH.none_put (by assumption) | exact AH.none_put (AH.none_put (by assumption)) | (simp only [AH.blk_setTok, AH.tok_put] at *; first | assumption | exact AH.none_put (by assumption)))) | (refine AH.le_putM ?_ (by first | assumption | exact (AH.mp_putM_ne _ _ (by assumption)).trans (by assumption) | (simp only [AH.mp_put, AH.mp_setTok] at *; assumption)))))⟩
end Go.Proofs.YtidmekdkfiljjaaGreat
namespace Go.Proofs.YtidmekdkfiljjaaGreat
open Go Go.Abs
set_option linter.unusedSimpArgs false
set_option linter.unusedVariables false
set_option maxRecDepth 20000

/-- Weighted evidence. -/
structure Cs where
  n : Int
  n1 : Bool
  a : List (Int × Int)
  u1 : Tail
  n2 : Bool
  w : List Int
  u2 : Tail
def Cs.cs (c : Cs) : List AV := [I c.n, .sl c.n1 c.a.length (prs c.a) c.u1, .sl c.n2 c.w.length (i64s c.w) c.u2]
theorem r_slices_IndexFunc_intR (x : AV) (e : List Int) (f : FuncId) (caps : List AV) (p : Nat → Bool) (h : AH) (hx : Rd h x e) (hel : e.length ≤ 1000) (hp : ∀ i, i < e.length → RCall Tryz.prog f (I (e.getD i 0) :: caps) h (.bool (p i))) :
    RCall Tryz.prog n_slices_IndexFunc_int [x, .fn f caps] h (I (findI p e.length)) := by
  refine RCall.of hm cF_slices_IndexFunc_int (by simp [g_slices_IndexFunc_int]) fun hw h' hl => ?_
  have hx := hx.leB hl
  simp only [rd_len hx, F_slices_IndexFunc_int, g_slices_IndexFunc_int, go_sem, ↓tq_n, ↓tq_e, ↓tq_r, ↓bq_n, ↓bq_e, ↓bq_r, ↓rq_n, ↓rq_r, ↓rq_e]
  refine awp_loop (fun i : Nat => [(0, x), (1, .fn f caps), (7, I e.length), (8, I i)]) (fun _ => h') (fun i => i ≤ e.length ∧ ∀ j, j < i → p j = false) (fun i => e.length - i) 0 ⟨by omega, by omega⟩ (GStep.forget (by repeat' first | exact EnvLe.nil _ | refine EnvLe.cons (AV.le.of_eq rfl) ?_ | refine EnvLe.cons (AV.le.undef _) ?_ | refine EnvLe.cons AV.le.unk ?_) (by repeat' first | exact AH.le.refl _ | assumption | (refine AH.le_put ?_ (by first | assumption | exact (AH.blk_put_ne _ _ (by assumption)).trans (by assumption) | exact AH.none_put (by assumption) | exact AH.none_put (AH.none_put (by assumption)) | (simp only [AH.blk_setTok, AH.tok_put] at *; first | assumption | exact AH.none_put (by assumption)))) | (refine AH.le_setTok ?_ (by first | assumption | exact (AH.blk_put_ne _ _ (by assumption)).trans (by assumption) | exact AH.none_put (by assumption) | exact AH.none_put (AH.none_put (by assumption)) | (simp only [AH.blk_setTok, AH.tok_put] at *; first | assumption | exact AH.none_put (by assumption)))) | (refine AH.le_putM ?_ (by first | assumption | exact (AH.mp_putM_ne _ _ (by assumption)).trans (by assumption) | (simp only [AH.mp_put, AH.mp_setTok] at *; assumption))))) fun i hi => .of_vg hm ?_
  obtain ⟨h1, h2⟩ := hi
  by_cases h3 : i < e.length
  · have hc : (i : Int) < (e.length : Int) := by omega
    simp only [hc, rd_ix hx, rd_ld hx h3, F_slices_IndexFunc_int, g_slices_IndexFunc_int, go_sem, ↓tq_n, ↓tq_e, ↓tq_r, ↓bq_n, ↓bq_e, ↓bq_r, ↓rq_n, ↓rq_r, ↓rq_e]
    refine CallG.mk ((hp i h3).leB hl) ?_
    cases hpi : p i
    · simp only [F_slices_IndexFunc_int, g_slices_IndexFunc_int, go_sem, ↓tq_n, ↓tq_e, ↓tq_r, ↓bq_n, ↓bq_e, ↓bq_r, ↓rq_n, ↓rq_r, ↓rq_e]
      exact ⟨by rw [inR64]; omega, i + 1, ⟨by omega, fun j hj => by rcases Nat.lt_succ_iff_lt_or_eq.1 hj with h | rfl; exact h2 j h; exact hpi⟩, by omega, (GStep.forget (by repeat' first | exact EnvLe.nil _ | refine EnvLe.cons (AV.le.of_eq rfl) ?_ | refine EnvLe.cons (AV.le.undef _) ?_ | refine EnvLe.cons AV.le.unk ?_) (by repeat' first | exact AH.le.refl _ | assumption | (refine AH.le_put ?_ (by first | assumption | exact (AH.blk_put_ne _ _ (by assumption)).trans (by assumption) | exact AH.none_put (by assumption) | exact AH.none_put (AH.none_put (by assumption)) | (simp only [AH.blk_setTok, AH.tok_put] at *; first | assumption | exact AH.none_put (by assumption)))) | (refine AH.le_setTok ?_ (by first | assumption | exact (AH.blk_put_ne _ _ (by assumption)).trans (by assumption) | exact AH.none_put (by assumption) | exact AH.none_put (AH.none_put (by assumption)) | (simp only [AH.blk_setTok, AH.tok_put] at *; first | assumption | exact AH.none_put (by assumption)))) | (refine AH.le_putM ?_ (by first | assumption | exact (AH.mp_putM_ne _ _ (by assumption)).trans (by assumption) | (simp only [AH.mp_put, AH.mp_setTok] at *; assumption)))))⟩
    · simp only [F_slices_IndexFunc_int, g_slices_IndexFunc_int, go_sem, ↓tq_n, ↓tq_e, ↓tq_r, ↓bq_n, ↓bq_e, ↓bq_r, ↓rq_n, ↓rq_r, ↓rq_e]
      refine ret_hb (by repeat' first | exact AH.le.refl _ | assumption | (refine AH.le_put ?_ (by first | assumption | exact (AH.blk_put_ne _ _ (by assumption)).trans (by assumption) | exact AH.none_put (by assumption) | exact AH.none_put (AH.none_put (by assumption)) | (simp only [AH.blk_setTok, AH.tok_put] at *; first | assumption | exact AH.none_put (by assumption)))) | (refine AH.le_setTok ?_ (by first | assumption | exact (AH.blk_put_ne _ _ (by assumption)).trans (by assumption) | exact AH.none_put (by assumption) | exact AH.none_put (AH.none_put (by assumption)) | (simp only [AH.blk_setTok, AH.tok_put] at *; first | assumption | exact AH.none_put (by assumption)))) | (refine AH.le_putM ?_ (by first | assumption | exact (AH.mp_putM_ne _ _ (by assumption)).trans (by assumption) | (simp only [AH.mp_put, AH.mp_setTok] at *; assumption)))) ?_
      rw [findI_at hpi h2 h3]
  · have h3 : i = e.length := by omega
    subst h3
    simp only [F_slices_IndexFunc_int, g_slices_IndexFunc_int, go_sem, ↓tq_n, ↓tq_e, ↓tq_r, ↓bq_n, ↓bq_e, ↓bq_r, ↓rq_n, ↓rq_r, ↓rq_e]
    refine ret_hb (by repeat' first | exact AH.le.refl _ | assumption | (refine AH.le_put ?_ (by first | assumption | exact (AH.blk_put_ne _ _ (by assumption)).trans (by assumption) | exact AH.none_put (by assumption) | exact AH.none_put (AH.none_put (by assumption)) | (simp only [AH.blk_setTok, AH.tok_put] at *; first | assumption | exact AH.none_put (by assumption)))) | (refine AH.le_setTok ?_ (by first | assumption | exact (AH.blk_put_ne _ _ (by assumption)).trans (by assumption) | exact AH.none_put (by assumption) | exact AH.none_put (AH.none_put (by assumption)) | (simp only [AH.blk_setTok, AH.tok_put] at *; first | assumption | exact AH.none_put (by assumption)))) | (refine AH.le_putM ?_ (by first | assumption | exact (AH.mp_putM_ne _ _ (by assumption)).trans (by assumption) | (simp only [AH.mp_put, AH.mp_setTok] at *; assumption)))) ?_
    rw [findI_neg h2]
end Go.Proofs.YtidmekdkfiljjaaGreat
namespace Go.Proofs.YtidmekdkfiljjaaGreat
open Go Go.Abs
set_option linter.unusedSimpArgs false
set_option linter.unusedVariables false
set_option linter.unusedSectionVars false
set_option maxRecDepth 20000

theorem AV_le_cells {nl : Bool} {n : Nat} {cs cs' : List AV} {tl : Tail} (hl : cs'.length = cs.length) (h : ∀ (j : Nat) (x y : AV), cs'[j]? = some x → cs[j]? = some y → AV.le x y) : AV.le (.sl nl n cs' tl) (.sl nl n cs tl) := by
  intro s v hv
  cases hv with
  | sl _ _ _ _ a cap vs hlen hrel hfx hnil hnone hspot hcap hmax htl =>
    refine .sl nl n cs' tl a cap vs (by omega) (fun j x v hx hv => ?_) hfx hnil hnone hspot hcap hmax htl
    have hj : j < cs.length := by rw [← hl]; exact (List.getElem?_eq_some_iff.1 hx).1
    exact h j x _ hx (List.getElem?_eq_getElem hj) s v (hrel j _ v (List.getElem?_eq_getElem hj) hv)
/-- The indices that a set of the rest stands for. -/
def pick (left s : List Int) : List Int := s.map fun k => left.getD k.toNat 0
def lowK (w T : List Int) : Nat → Int
  | 0 => 100
  | k + 1 => min (lowK w T k) (w.getD (T.getD k 0).toNat 0)
def rmv (left T : List Int) : List Int := left.filter fun x => !decide (x ∈ T)
noncomputable def pkF (n : Nat) (a : List (Int × Int)) (w : List Int) : Nat → List Int → List (List Int) × Int
  | 0, _ => ([], 0)
  | f + 1, left => match smF (sub a left) n with
    | none => ([], 0)
    | some s => (pick left s :: (pkF n a w f (rmv left (pick left s))).1, lowK w (pick left s) (pick left s).length + (pkF n a w f (rmv left (pick left s))).2)
theorem sub_ev {n : Nat} {a : List (Int × Int)} (he : Ev n a) {left : List Int} (hl : Ix a.length left) : Ev n (sub a left) := by
  refine ⟨he.1, he.2.1, ?_, fun i hi => ?_⟩
  · rw [sub_len]
    have := ix_len hl
    have := he.2.2.1
    omega
  · rw [sub_len] at hi
    rw [sub_get hi]
    exact he.2.2.2 _ (ix_at hl hi).2.2
section
variable {n : Nat} {a : List (Int × Int)} (he : Ev n a) {left : List Int} (hl : Ix a.length left) {s : List Int} (hs : smF (sub a left) n = some s)
include he hl hs
theorem pk_ix : Ix left.length s ∧ 0 < s.length ∧ Good n (sub a left) s := by
  have hev := sub_ev he hl
  have hf := smF_fst hev hs
  have h1 := hf.1.1
  rw [sub_len] at h1
  refine ⟨h1, ?_, hf.1⟩
  obtain ⟨ks, u, k1, k2, k3⟩ := (cy_iff hev hf.1.1).1 hf.1.2
  cases ks with
  | nil => exact absurd rfl k1
  | cons k ks => exact List.length_pos_of_mem (k3 k (by simp))
theorem pick_len : (pick left s).length = s.length := by simp [pick]
theorem pick_get {i : Nat} (hi : i < s.length) : (pick left s).getD i 0 = left.getD (s.getD i 0).toNat 0 := by simp [pick, List.getD, hi]
theorem pick_mem {x : Int} (hx : x ∈ pick left s) : x ∈ left := by
  unfold pick at hx
  obtain ⟨k, hk, rfl⟩ := List.mem_map.1 hx
  have := (ix_pw.1 (pk_ix he hl hs).1).1 k hk
  exact mem_getD (by omega)
theorem pick_asc : (pick left s).Pairwise (· < ·) := by
  have h1 := (ix_pw.1 (pk_ix he hl hs).1)
  have h2 := (ix_pw.1 hl).2
  unfold pick
  rw [List.pairwise_map]
  refine List.Pairwise.imp_of_mem (fun {x y} hx hy hxy => ?_) h1.2
  have hx := h1.1 x hx
  have hy := h1.1 y hy
  have := (List.pairwise_iff_getElem.1 h2) x.toNat y.toNat (by omega) (by omega) (by omega)
  simpa [List.getD, show x.toNat < left.length by omega, show y.toNat < left.length by omega] using this
theorem pick_ix : Ix a.length (pick left s) := by
  rw [ix_pw]
  exact ⟨fun x hx => (ix_pw.1 hl).1 x (pick_mem he hl hs hx), pick_asc he hl hs⟩
theorem rmv_lt : (rmv left (pick left s)).length < left.length := by
  have h1 := pk_ix he hl hs
  have hm : ∃ x, x ∈ pick left s := List.exists_mem_of_length_pos (by rw [pick_len he hl hs]; exact h1.2.1)
  obtain ⟨x, hx⟩ := hm
  refine List.length_filter_lt_length_iff_exists.2 ⟨x, pick_mem he hl hs hx, ?_⟩
  simp [hx]
omit he hs in
theorem rmv_ix (T : List Int) : Ix a.length (rmv left T) := ix_sub hl List.filter_sublist
end
/-- A list of lists. -/
def lls (O : List (List Int)) : List AV := O.map fun T => .sl false T.length (i64s T) .unk
theorem lls_len (O : List (List Int)) : (lls O).length = O.length := by simp [lls]
theorem lls_app (O : List (List Int)) (T : List Int) : lls (O ++ [T]) = lls O ++ [.sl false T.length (i64s T) .unk] := by simp [lls]
theorem lowK_bd {w : List Int} (hw : Wl w) (T : List Int) : ∀ k, 0 ≤ lowK w T k ∧ lowK w T k ≤ 100 := by
  intro k
  induction k with
  | zero => simp [lowK]
  | succ k ih =>
    have := wl_all hw (T.getD k 0).toNat
    simp only [lowK]
    omega
theorem sub_take (a : List (Int × Int)) (left : List Int) {i : Nat} (hi : i < left.length) : sub a (left.take (i + 1)) = sub a (left.take i) ++ [a.getD (left.getD i 0).toNat (0, 0)] := by
  unfold sub
  exact take_map_succ (fun k : Int => a.getD k.toNat (0, 0)) 0 hi
noncomputable def pkV (n : Int) (a : List (Int × Int)) (w : List Int) : AV := if chkE n a w = 0 then .tup [gl (lls (pkF n.toNat a w a.length (nats (List.range a.length))).1) (pkF n.toNat a w a.length (nats (List.range a.length))).1.length .unk, I (pkF n.toNat a w a.length (nats (List.range a.length))).2, I 0] else .tup [.sl true 0 [] .full, I 0, I (chkE n a w)]
end Go.Proofs.YtidmekdkfiljjaaGreat
namespace Go.Proofs.YtidmekdkfiljjaaGreat
open Go Go.Abs
set_option linter.unusedSimpArgs false
set_option linter.unusedVariables false
set_option maxRecDepth 20000

theorem tok_ne {h : AH} {t u n m : Nat} (hne : u ≠ t) : (h.setTok t n m).tok u = h.tok u := if_neg hne
theorem tok_fresh {h : AH} {t u n m : Nat} (hu : (h.setTok t n m).tok u = none) : u ≠ t ∧ h.tok u = none := by
  by_cases hh : u = t
  · subst hh; rw [AH.tok_setTok] at hu; cases hu
  · rw [tok_ne hh] at hu; exact ⟨hh, hu⟩
theorem sub_tl (a : List (Int × Int)) (left : List Int) (i : Nat) (hi : i ≤ left.length) : (sub a (left.take i)).length = i := by
  rw [sub_len, List.length_take]; omega
theorem lls_le {O : List (List Int)} {T : List Int} {tl : Tail} {n : Nat} {t : Tail} : AV.le (gl (lls (O ++ [T])) n t) (gl (lls O ++ [.sl false T.length (i64s T) tl]) n t) := by
  rw [lls_app]
  refine AV_le_cells (by simp) fun j x y hx hy => ?_
  rcases Nat.lt_or_ge j (lls O).length with h | h
  · rw [List.getElem?_append_left h] at hx hy
    rw [hx] at hy; cases hy; exact AV.le.refl _
  · rw [List.getElem?_append_right h] at hx hy
    rcases Nat.eq_zero_or_pos (j - (lls O).length) with h0 | h0
    · rw [h0] at hx hy
      simp at hx hy
      subst hx; subst hy
      exact AV.le.unk
    · rw [List.getElem?_eq_none (by simp; omega)] at hx
      cases hx
theorem pkF_none {n : Nat} {a : List (Int × Int)} {w : List Int} {f : Nat} {left : List Int} (h : smF (sub a left) n = none) : pkF n a w f left = ([], 0) := by
  cases f with
  | zero => rfl
  | succ f => simp only [pkF, h]
theorem pkF_some {n : Nat} {a : List (Int × Int)} {w : List Int} {f : Nat} {left s : List Int} (h : smF (sub a left) n = some s) : pkF n a w (f + 1) left = (pick left s :: (pkF n a w f (rmv left (pick left s))).1, lowK w (pick left s) (pick left s).length + (pkF n a w f (rmv left (pick left s))).2) := by
  simp only [pkF, h]
theorem smV_none {n : Nat} {a : List (Int × Int)} (he : Ev n a) (h : smF a n = none) : smV n a = .tup [.sl true 0 [] .full, I 7] := by
  unfold smV; rw [if_pos he, Int.toNat_natCast, h]
theorem smV_some {n : Nat} {a : List (Int × Int)} (he : Ev n a) {s : List Int} (h : smF a n = some s) : smV n a = .tup [.sl false s.length (i64s s) .unk, I 0] := by
  unfold smV; rw [if_pos he, Int.toNat_natCast, h]
theorem all_ix (k : Nat) : Ix k (nats (List.range k)) := by
  rw [ix_pw]
  constructor
  · intro x hx
    obtain ⟨j, hj, rfl⟩ := List.mem_map.1 hx
    have := List.mem_range.1 hj
    omega
  · unfold nats
    rw [List.pairwise_map]
    exact List.pairwise_lt_range.imp fun h => by omega
def rmK (T left : List Int) (i : Nat) : List Int := (left.take i).filter fun x => !decide (x ∈ T)
theorem rmK_all (T left : List Int) : rmK T left left.length = rmv left T := by simp [rmK, rmv]
theorem rmK_succ (T : List Int) {left : List Int} {i : Nat} (hi : i < left.length) : rmK T left (i + 1) = if left.getD i 0 ∈ T then rmK T left i else rmK T left i ++ [left.getD i 0] := by
  unfold rmK
  rw [take_getD 0 hi, List.filter_append]
  split <;> simp_all
end Go.Proofs.YtidmekdkfiljjaaGreat
namespace Go.Proofs.YtidmekdkfiljjaaGreat
open Go Go.Abs
set_option linter.unusedSimpArgs false
set_option linter.unusedVariables false
set_option maxRecDepth 20000

theorem first_hit (p : Nat → Bool) : ∀ n, (∀ j, j < n → p j = false) ∨ ∃ k, k < n ∧ p k = true ∧ ∀ j, j < k → p j = false := by
  intro n
  induction n with
  | zero => exact .inl fun j hj => absurd hj (Nat.not_lt_zero _)
  | succ n ih =>
    rcases ih with h | ⟨k, h1, h2, h3⟩
    · cases hp : p n with
      | true => exact .inr ⟨n, Nat.lt_succ_self n, hp, h⟩
      | false => exact .inl fun j hj => by rcases Nat.lt_succ_iff_lt_or_eq.1 hj with h' | rfl; exact h j h'; exact hp
    · exact .inr ⟨k, by omega, h2, h3⟩
theorem rmK_keep (T : List Int) {xs : List Int} : ∀ {k : Nat}, k ≤ xs.length → (∀ j, j < k → ¬ xs.getD j 0 ∈ T) → rmK T xs k = xs.take k := by
  intro k
  induction k with
  | zero => intro _ _; simp [rmK]
  | succ k ih =>
    intro hk h
    rw [rmK_succ T (by omega), if_neg (h k (by omega)), ih (by omega) (fun j hj => h j (by omega)), take_getD 0 (by omega)]
theorem set_take_at {zs : List Int} {i : Nat} (v : Int) (hi : i < zs.length) : (zs.set i v).take (i + 1) = zs.take i ++ [v] := by
  rw [take_getD 0 (by rw [List.length_set]; exact hi), List.take_set]
  congr 1
  · rw [List.set_eq_of_length_le (by rw [List.length_take]; omega)]
  · simp [List.getD, hi]
set_option maxHeartbeats 2000000 in
theorem s_DeleteFunc (xs T : List Int) (f : FuncId) (caps : List AV) (b q : Nat) (more : List AV) (h : AH) (hb : h.blk b = some (i64s xs ++ more)) (hq : xs.length ≤ q) (hx1 : xs.length ≤ 1000)
    (hp : ∀ x ∈ xs, ∀ cs, RCall Tryz.prog f (I x :: caps) (h.put b cs) (.bool (decide (x ∈ T)))) :
    ACalls Tryz.prog n_slices_DeleteFunc_int [.msl b 0 xs.length (some q), .fn f caps] h fun r g => ∃ more', r = .msl b 0 (rmv xs T).length (some q) ∧ g = h.put b (i64s (rmv xs T) ++ more') := by
  refine ACalls.of hm cF_slices_DeleteFunc_int (by simp [g_slices_DeleteFunc_int]) fun hw => ?_
  have hrd : Rd h (.msl b 0 xs.length (some q)) xs := .inr ⟨b, _, more, rfl, hb⟩
  obtain ⟨p, hpd⟩ : ∃ p : Nat → Bool, p = fun i => decide (xs.getD i 0 ∈ T) := ⟨_, rfl⟩
  have hself : h.put b (i64s xs ++ more) = h := AH.put_same hb
  simp only [F_slices_DeleteFunc_int, g_slices_DeleteFunc_int, go_sem, ↓tq_n, ↓tq_e, ↓tq_r, ↓bq_n, ↓bq_e, ↓bq_r, ↓rq_n, ↓rq_r, ↓rq_e]
  refine CallG.mk (r_slices_IndexFunc_intR _ xs f caps p h hrd hx1 (fun i hi => by
    have := hp _ (mem_getD (d := 0) hi) (i64s xs ++ more)
    rw [hself] at this
    rw [hpd]; exact this)) ?_
  rcases first_hit p xs.length with hno | ⟨k, k1, k2, k3⟩
  · rw [findI_neg hno]
    have hr : rmv xs T = xs := by
      rw [← rmK_all, rmK_keep T (Nat.le_refl _) (fun j hj => by have := hno j hj; rw [hpd] at this; simpa using this), List.take_length]
    simp only [F_slices_DeleteFunc_int, g_slices_DeleteFunc_int, go_sem, ↓tq_n, ↓tq_e, ↓tq_r, ↓bq_n, ↓bq_e, ↓bq_r, ↓rq_n, ↓rq_r, ↓rq_e]
    exact ⟨_, _, .refl _ _, more, by rw [hr], by rw [hr, hself]⟩
  rw [findI_at k2 k3 k1]
  have hkk : rmK T xs (k + 1) = xs.take k := by
    rw [rmK_succ T k1, if_pos (by rw [hpd] at k2; simpa using k2), rmK_keep T (by omega) (fun j hj => by have := k3 j hj; rw [hpd] at this; simpa using this)]
  have hkn : ¬ (k : Int) = -1 := by omega
  simp only [hkn, F_slices_DeleteFunc_int, g_slices_DeleteFunc_int, go_sem, ↓tq_n, ↓tq_e, ↓tq_r, ↓bq_n, ↓bq_e, ↓bq_r, ↓rq_n, ↓rq_r, ↓rq_e]
  refine ⟨by rw [inR64]; omega, ?_⟩
  refine awp_loop (α := Nat × List Int) (fun y => [(0, .msl b 0 xs.length (some q)), (1, .fn f caps), (5, I (rmK T xs y.1).length), (6, I y.1)]) (fun y => h.put b (i64s y.2 ++ more)) (fun y => k < y.1 ∧ y.1 ≤ xs.length ∧ (rmK T xs y.1).length < y.1 ∧ y.2.length = xs.length ∧ y.2.take (rmK T xs y.1).length = rmK T xs y.1 ∧ y.2.drop y.1 = xs.drop y.1) (fun y => xs.length - y.1) (k + 1, xs) ⟨Nat.lt_succ_self k, k1, by simp only [hkk, List.length_take]; omega, rfl, by simp only [hkk, List.length_take]; rw [Nat.min_eq_left (by omega)], rfl⟩ (by simp only [hkk, List.length_take, Nat.min_eq_left (Nat.le_of_lt k1), hself]; exact (GStep.forget (by repeat' first | exact EnvLe.nil _ | refine EnvLe.cons (AV.le.of_eq rfl) ?_ | refine EnvLe.cons (AV.le.undef _) ?_ | refine EnvLe.cons AV.le.unk ?_) (by repeat' first | exact AH.le.refl _ | assumption | (refine AH.le_put ?_ (by first | assumption | exact (AH.blk_put_ne _ _ (by assumption)).trans (by assumption) | exact AH.none_put (by assumption) | exact AH.none_put (AH.none_put (by assumption)) | (simp only [AH.blk_setTok, AH.tok_put] at *; first | assumption | exact AH.none_put (by assumption)))) | (refine AH.le_setTok ?_ (by first | assumption | exact (AH.blk_put_ne _ _ (by assumption)).trans (by assumption) | exact AH.none_put (by assumption) | exact AH.none_put (AH.none_put (by assumption)) | (simp only [AH.blk_setTok, AH.tok_put] at *; first | assumption | exact AH.none_put (by assumption)))) | (refine AH.le_putM ?_ (by first | assumption | exact (AH.mp_putM_ne _ _ (by assumption)).trans (by assumption) | (simp only [AH.mp_put, AH.mp_setTok] at *; assumption)))))) fun y hy => .of_vg hm ?_
  obtain ⟨j, zs⟩ := y
  obtain ⟨y1, y2, y3, y4, y5, y6⟩ := hy
  simp only at y1 y2 y3 y4 y5 y6
  have hlen : (i64s zs ++ more).length = xs.length + more.length := by rw [List.length_append, i64s_len, y4]
  by_cases h3 : j < xs.length
  · have hc : (j : Int) < (xs.length : Int) := by omega
    have hj0 : (0 : Int) ≤ (j : Int) := by omega
    have hsucc := rmK_succ T h3
    have hrd2 : Rd (h.put b (i64s zs ++ more)) (.msl b 0 xs.length (some q)) zs := .inr ⟨b, _, more, by rw [y4], AH.blk_put _ _ _⟩
    have hzj : zs.getD j 0 = xs.getD j 0 := by
      have e1 := getD_drop zs 0 (show j < zs.length by omega)
      have e2 := getD_drop xs 0 h3
      rw [y6, e2] at e1
      injection e1 with e3 e4
      exact e3.symm
    have hcz : (j : Int) < (zs.length : Int) := by omega
    have hjz : j < zs.length := by omega
    have hix := fun K => rd_ix (K := K) hrd2 (kd := .i64) (j := (j : Int))
    simp only [hc, hcz, hj0, hix, rd_ld hrd2 hjz, F_slices_DeleteFunc_int, g_slices_DeleteFunc_int, go_sem, ↓tq_n, ↓tq_e, ↓tq_r, ↓bq_n, ↓bq_e, ↓bq_r, ↓rq_n, ↓rq_r, ↓rq_e]
    rw [hzj]
    refine CallG.mk (hp _ (mem_getD (d := 0) h3) _) ?_
    by_cases hin : xs.getD j 0 ∈ T
    · rw [if_pos hin] at hsucc
      rw [decide_eq_true hin]
      simp only [F_slices_DeleteFunc_int, g_slices_DeleteFunc_int, go_sem, ↓tq_n, ↓tq_e, ↓tq_r, ↓bq_n, ↓bq_e, ↓bq_r, ↓rq_n, ↓rq_r, ↓rq_e]
      refine ⟨by rw [inR64]; omega, (j + 1, zs), ⟨by simp only; omega, by simp only; omega, by simp only [hsucc]; omega, y4, by simp only [hsucc]; exact y5, ?_⟩, by simp only; omega, ?_⟩
      · simp only
        rw [← List.drop_drop, ← List.drop_drop, y6]
      · simp only [hsucc]
        exact (GStep.forget (by repeat' first | exact EnvLe.nil _ | refine EnvLe.cons (AV.le.of_eq rfl) ?_ | refine EnvLe.cons (AV.le.undef _) ?_ | refine EnvLe.cons AV.le.unk ?_) (by repeat' first | exact AH.le.refl _ | assumption | (refine AH.le_put ?_ (by first | assumption | exact (AH.blk_put_ne _ _ (by assumption)).trans (by assumption) | exact AH.none_put (by assumption) | exact AH.none_put (AH.none_put (by assumption)) | (simp only [AH.blk_setTok, AH.tok_put] at *; first | assumption | exact AH.none_put (by assumption)))) | (refine AH.le_setTok ?_ (by first | assumption | exact (AH.blk_put_ne _ _ (by assumption)).trans (by assumption) | exact AH.none_put (by assumption) | exact AH.none_put (AH.none_put (by assumption)) | (simp only [AH.blk_setTok, AH.tok_put] at *; first | assumption | exact AH.none_put (by assumption)))) | (refine AH.le_putM ?_ (by first | assumption | exact (AH.mp_putM_ne _ _ (by assumption)).trans (by assumption) | (simp only [AH.mp_put, AH.mp_setTok] at *; assumption)))))
    · rw [if_neg hin] at hsucc
      rw [decide_eq_false hin]
      obtain ⟨i, hi⟩ : ∃ i, i = (rmK T xs j).length := ⟨_, rfl⟩
      rw [← hi] at y3 y5 ⊢
      have hci : (i : Int) < (xs.length : Int) := by omega
      have hi0 : (0 : Int) ≤ (i : Int) := by omega
      have hset : (i64s zs ++ more).set i (I (xs.getD j 0)) = i64s (zs.set i (xs.getD j 0)) ++ more := by
        rw [List.set_append, if_pos (by rw [i64s_len]; omega), i64s_set]
      have hil : i + 1 ≤ (i64s zs ++ more).length := by rw [hlen]; omega
      simp only [hci, hi0, hset, hil, F_slices_DeleteFunc_int, g_slices_DeleteFunc_int, go_sem, ↓tq_n, ↓tq_e, ↓tq_r, ↓bq_n, ↓bq_e, ↓bq_r, ↓rq_n, ↓rq_r, ↓rq_e]
      have hl2 : (rmK T xs (j + 1)).length = i + 1 := by rw [hsucc, List.length_append, ← hi]; rfl
      refine ⟨by rw [inR64]; omega, by rw [inR64]; omega, (j + 1, zs.set i (xs.getD j 0)), ⟨by simp only; omega, by simp only; omega, by simp only [hl2]; omega, by simp only [List.length_set]; exact y4, ?_, ?_⟩, by simp only; omega, ?_⟩
      · simp only [hl2]
        rw [set_take_at _ (by omega), y5, hsucc]
      · simp only
        rw [List.drop_set_of_lt (by omega), ← List.drop_drop, ← List.drop_drop, y6]
      · simp only [hl2]
        exact (GStep.forget (by repeat' first | exact EnvLe.nil _ | refine EnvLe.cons (AV.le.of_eq rfl) ?_ | refine EnvLe.cons (AV.le.undef _) ?_ | refine EnvLe.cons AV.le.unk ?_) (by repeat' first | exact AH.le.refl _ | assumption | (refine AH.le_put ?_ (by first | assumption | exact (AH.blk_put_ne _ _ (by assumption)).trans (by assumption) | exact AH.none_put (by assumption) | exact AH.none_put (AH.none_put (by assumption)) | (simp only [AH.blk_setTok, AH.tok_put] at *; first | assumption | exact AH.none_put (by assumption)))) | (refine AH.le_setTok ?_ (by first | assumption | exact (AH.blk_put_ne _ _ (by assumption)).trans (by assumption) | exact AH.none_put (by assumption) | exact AH.none_put (AH.none_put (by assumption)) | (simp only [AH.blk_setTok, AH.tok_put] at *; first | assumption | exact AH.none_put (by assumption)))) | (refine AH.le_putM ?_ (by first | assumption | exact (AH.mp_putM_ne _ _ (by assumption)).trans (by assumption) | (simp only [AH.mp_put, AH.mp_setTok] at *; assumption)))))
  have h3 : j = xs.length := by omega
  subst h3
  rw [rmK_all] at y3 y5 ⊢
  obtain ⟨i, hi⟩ : ∃ i, i = (rmv xs T).length := ⟨_, rfl⟩
  rw [← hi] at y3 y5 ⊢
  simp only [mslCut_lt (show i < q by omega), F_slices_DeleteFunc_int, g_slices_DeleteFunc_int, go_sem, ↓tq_n, ↓tq_e, ↓tq_r, ↓bq_n, ↓bq_e, ↓bq_r, ↓rq_n, ↓rq_r, ↓rq_e]
  refine ⟨hq, by omega, by rw [hlen]; omega, by omega, Nat.zero_le _, _, _, .refl _ _, (List.replicate (xs.length - i) [AV.int IntKind.i64 0]).flatten ++ (i64s zs ++ more).drop (i + (List.replicate (xs.length - i) [AV.int IntKind.i64 0]).flatten.length), rfl, ?_⟩
  have hfl : (List.replicate (xs.length - i) [AV.int IntKind.i64 0]).flatten.length = xs.length - i := by simp
  congr 1
  rw [spl_eq _ _ _ (by rw [hfl, hlen]; omega), List.append_assoc, List.take_append_of_le_length (by rw [i64s_len]; omega), i64s_take, y5]
/-- A list of numbers in memory that lay nowhere before. -/
def Gw (h0 : AH) (x : AV) (xs : List Int) (h : AH) : Prop := h0.le h ∧ ((xs = [] ∧ x = .sl true 0 [] .full) ∨ ∃ b q more, x = .msl b 0 xs.length (some q) ∧ xs.length ≤ q ∧ h.blk b = some (i64s xs ++ more) ∧ h0.blk b = none)
theorem gr_gw {h0 h : AH} {x : AV} {xs : List Int} (k : Gr h0 x xs h) : Gw h0 x xs h := by
  rcases k with ⟨hl, k | ⟨hne, b, q, h1, h2, h3, h4⟩⟩
  · exact ⟨hl, .inl k⟩
  · exact ⟨hl, .inr ⟨b, q, _, h1, h2, h3, h4⟩⟩
theorem Gw.rd {h0 h : AH} {x : AV} {xs : List Int} (k : Gw h0 x xs h) : Rd h x xs := by
  rcases k with ⟨_, ⟨rfl, rfl⟩ | ⟨b, q, more, rfl, _, hb, _⟩⟩
  · exact .inl ⟨_, _, rfl⟩
  · exact .inr ⟨b, _, _, rfl, hb⟩
theorem tok_of_le {h0 h : AH} (hl : h0.le h) {t : Nat} (ht : h.tok t = none) : h0.tok t = none := by
  cases he : h0.tok t with
  | none => rfl
  | some v =>
    have := hl.tok t v he
    rw [ht] at this; cases this
theorem rd_blk {h g : AH} {x : AV} {xs : List Int} (k : Rd h x xs) (hb : g.blk = h.blk) : Rd g x xs := by
  rcases k with k | ⟨b, cap, rest, h1, h2⟩
  · exact .inl k
  · exact .inr ⟨b, cap, rest, h1, by rw [hb]; exact h2⟩
/-- The closure that asks whether a piece was taken. -/
theorem r_attribution_Packing_1 (x : Int) (b : Nat) (T : List Int) (nl : Bool) (tl : Tail) (h : AH) (hb : h.blk b = some [.sl nl T.length (i64s T) tl]) : RCall Tryz.prog n_attribution_Packing_1 [I x, .ptr b 0] h (.bool (decide (x ∈ T))) := by
  refine RCall.of hm cF_attribution_Packing_1 (by simp [g_attribution_Packing_1]) fun hw h' hl => ?_
  have hb := hl.1 _ _ hb
  simp only [hb, F_attribution_Packing_1, g_attribution_Packing_1, go_sem, ↓tq_n, ↓tq_e, ↓tq_r, ↓bq_n, ↓bq_e, ↓bq_r, ↓rq_n, ↓rq_r, ↓rq_e]
  refine CallG.mk (r_slices_Contains_int nl T tl x _) ?_
  simp only [F_attribution_Packing_1, g_attribution_Packing_1, go_sem, ↓tq_n, ↓tq_e, ↓tq_r, ↓bq_n, ↓bq_e, ↓bq_r, ↓rq_n, ↓rq_r, ↓rq_e]
  exact ret_ok rfl
set_option maxHeartbeats 4000000 in
theorem r_attribution_PackingM (n : Int) (n1 : Bool) (a : List (Int × Int)) (u1 : Tail) (n2 : Bool) (w : List Int) (u2 : Tail) (h : AH) : RCall Tryz.prog n_attribution_PackingM [I n, .sl n1 a.length (prs a) u1, .sl n2 w.length (i64s w) u2] h (pkV n a w) := by
  refine RCall.of hm cF_attribution_PackingM (by simp [g_attribution_PackingM]) fun hw h' hl => ?_
  simp only [F_attribution_PackingM, g_attribution_PackingM, go_sem, ↓tq_n, ↓tq_e, ↓tq_r, ↓bq_n, ↓bq_e, ↓bq_r, ↓rq_n, ↓rq_r, ↓rq_e]
  refine CallG.mk (r_attribution_check n n1 a u1 n2 w u2 _) ?_
  by_cases c1 : chkE n a w = 0
  case neg =>
    simp only [c1, F_attribution_PackingM, g_attribution_PackingM, go_sem, ↓tq_n, ↓tq_e, ↓tq_r, ↓bq_n, ↓bq_e, ↓bq_r, ↓rq_n, ↓rq_r, ↓rq_e]
    exact ret_ok (by unfold pkV; rw [if_neg c1])
  have hok := chk_ok.1 c1
  obtain ⟨m, rfl⟩ := ev_nat hok.2.2.1
  have he := hok.2.2.1
  have hal := hok.2.1
  have hwl := hok.2.2.2.1
  have hWl := hok.2.2.2.2
  simp only [c1, F_attribution_PackingM, g_attribution_PackingM, go_sem, ↓tq_n, ↓tq_e, ↓tq_r, ↓bq_n, ↓bq_e, ↓bq_r, ↓rq_n, ↓rq_r, ↓rq_e]
  obtain ⟨all, hall⟩ : ∃ all, all = nats (List.range a.length) := ⟨_, rfl⟩
  have hal2 : all.length = a.length := by rw [hall, allI_len]
  have hv : pkV m a w = .tup [gl (lls (pkF m a w a.length all).1) (pkF m a w a.length all).1.length .unk, I (pkF m a w a.length all).2, I 0] := by
    unfold pkV; rw [if_pos c1, Int.toNat_natCast, hall]
  obtain ⟨fin, hfin⟩ : ∃ fin, fin = pkF m a w a.length all := ⟨_, rfl⟩
  rw [← hfin] at hv
  rw [hv]
  refine awp_loop (α := Nat × AV × AH) (fun z => [(0, I m), (1, .sl n1 a.length (prs a) u1), (2, .sl n2 w.length (i64s w) u2), (10, z.2.1), (31, I a.length), (32, I z.1)]) (fun z => z.2.2) (fun z => z.1 ≤ a.length ∧ Gr h' z.2.1 (nats (List.range z.1)) z.2.2) (fun z => a.length - z.1) (0, _, _) ⟨Nat.zero_le _, Gr.new _⟩ (GStep.forget (by repeat' first | exact EnvLe.nil _ | refine EnvLe.cons (AV.le.of_eq rfl) ?_ | refine EnvLe.cons (AV.le.undef _) ?_ | refine EnvLe.cons AV.le.unk ?_) (by repeat' first | exact AH.le.refl _ | assumption | (refine AH.le_put ?_ (by first | assumption | exact (AH.blk_put_ne _ _ (by assumption)).trans (by assumption) | exact AH.none_put (by assumption) | exact AH.none_put (AH.none_put (by assumption)) | (simp only [AH.blk_setTok, AH.tok_put] at *; first | assumption | exact AH.none_put (by assumption)))) | (refine AH.le_setTok ?_ (by first | assumption | exact (AH.blk_put_ne _ _ (by assumption)).trans (by assumption) | exact AH.none_put (by assumption) | exact AH.none_put (AH.none_put (by assumption)) | (simp only [AH.blk_setTok, AH.tok_put] at *; first | assumption | exact AH.none_put (by assumption)))) | (refine AH.le_putM ?_ (by first | assumption | exact (AH.mp_putM_ne _ _ (by assumption)).trans (by assumption) | (simp only [AH.mp_put, AH.mp_setTok] at *; assumption))))) fun z hz => .of_vg hm ?_
  obtain ⟨i, x, H⟩ := z
  obtain ⟨z1, z2⟩ := hz
  simp only at z1 z2
  by_cases h3 : i < a.length
  · have hc : (i : Int) < (a.length : Int) := by omega
    simp only [hc, F_attribution_PackingM, g_attribution_PackingM, go_sem, ↓tq_n, ↓tq_e, ↓tq_r, ↓bq_n, ↓bq_e, ↓bq_r, ↓rq_n, ↓rq_r, ↓rq_e]
    refine z2.step (by rw [allI_len]; omega) fun x2 H2 k2 => ?_
    simp only [F_attribution_PackingM, g_attribution_PackingM, go_sem, ↓tq_n, ↓tq_e, ↓tq_r, ↓bq_n, ↓bq_e, ↓bq_r, ↓rq_n, ↓rq_r, ↓rq_e]
    refine ⟨by rw [inR64]; omega, (i + 1, x2, H2), ⟨h3, by simp only [nats_succ]; exact k2⟩, by simp only; omega, (GStep.forget (by repeat' first | exact EnvLe.nil _ | refine EnvLe.cons (AV.le.of_eq rfl) ?_ | refine EnvLe.cons (AV.le.undef _) ?_ | refine EnvLe.cons AV.le.unk ?_) (by repeat' first | exact AH.le.refl _ | assumption | (refine AH.le_put ?_ (by first | assumption | exact (AH.blk_put_ne _ _ (by assumption)).trans (by assumption) | exact AH.none_put (by assumption) | exact AH.none_put (AH.none_put (by assumption)) | (simp only [AH.blk_setTok, AH.tok_put] at *; first | assumption | exact AH.none_put (by assumption)))) | (refine AH.le_setTok ?_ (by first | assumption | exact (AH.blk_put_ne _ _ (by assumption)).trans (by assumption) | exact AH.none_put (by assumption) | exact AH.none_put (AH.none_put (by assumption)) | (simp only [AH.blk_setTok, AH.tok_put] at *; first | assumption | exact AH.none_put (by assumption)))) | (refine AH.le_putM ?_ (by first | assumption | exact (AH.mp_putM_ne _ _ (by assumption)).trans (by assumption) | (simp only [AH.mp_put, AH.mp_setTok] at *; assumption)))))⟩
  have h3 : i = a.length := by omega
  subst h3
  rw [← hall] at z2
  have zw := gr_gw z2
  simp only [F_attribution_PackingM, g_attribution_PackingM, go_sem, ↓tq_n, ↓tq_e, ↓tq_r, ↓bq_n, ↓bq_e, ↓bq_r, ↓rq_n, ↓rq_r, ↓rq_e]
  refine awp_tok 12 1 (nl := true) (n := 0) (cs := []) rfl fun t ht => ?_
  refine awp_loop (α := Nat × List Int × List (List Int) × Int × AV × AH) (fun y => [(0, I m), (1, .sl n1 a.length (prs a) u1), (2, .sl n2 w.length (i64s w) u2), (10, y.2.2.2.2.1), (12, gl (lls y.2.2.1) y.2.2.1.length (.tok t)), (13, I y.2.2.2.1)]) (fun y => y.2.2.2.2.2.setTok t y.2.2.1.length 1)
    (fun y => Ix a.length y.2.1 ∧ y.2.1.length ≤ y.1 ∧ y.2.2.1.length + y.1 ≤ a.length ∧ 0 ≤ y.2.2.2.1 ∧ y.2.2.2.1 ≤ 100 * y.2.2.1.length ∧ y.2.2.1 ++ (pkF m a w y.1 y.2.1).1 = fin.1 ∧ y.2.2.2.1 + (pkF m a w y.1 y.2.1).2 = fin.2 ∧ Gw h' y.2.2.2.2.1 y.2.1 y.2.2.2.2.2 ∧ y.2.2.2.2.2.tok t = none)
    (fun y => y.1) (a.length, all, [], 0, x, H) ⟨by rw [hall]; exact all_ix _, by simp only; omega, by simp, by simp, by simp, by simp [hfin], by simp [hfin], zw, ht⟩ (GStep.forget (by repeat' first | exact EnvLe.nil _ | refine EnvLe.cons (AV.le.of_eq rfl) ?_ | refine EnvLe.cons (AV.le.undef _) ?_ | refine EnvLe.cons AV.le.unk ?_) (by repeat' first | exact AH.le.refl _ | assumption | (refine AH.le_put ?_ (by first | assumption | exact (AH.blk_put_ne _ _ (by assumption)).trans (by assumption) | exact AH.none_put (by assumption) | exact AH.none_put (AH.none_put (by assumption)) | (simp only [AH.blk_setTok, AH.tok_put] at *; first | assumption | exact AH.none_put (by assumption)))) | (refine AH.le_setTok ?_ (by first | assumption | exact (AH.blk_put_ne _ _ (by assumption)).trans (by assumption) | exact AH.none_put (by assumption) | exact AH.none_put (AH.none_put (by assumption)) | (simp only [AH.blk_setTok, AH.tok_put] at *; first | assumption | exact AH.none_put (by assumption)))) | (refine AH.le_putM ?_ (by first | assumption | exact (AH.mp_putM_ne _ _ (by assumption)).trans (by assumption) | (simp only [AH.mp_put, AH.mp_setTok] at *; assumption))))) fun y hy => .of_vg hm ?_
  clear z1 z2 zw ht x H
  obtain ⟨f, left, O, b, x, H⟩ := y
  obtain ⟨y1, y2, y3, y4, y5, y6, y7, y8, ht⟩ := hy
  simp only at y1 y2 y3 y4 y5 y6 y7 y8 ht
  have hll := ix_len y1
  have hel := sub_ev he y1
  have hle0 := y8.1
  have hrd := y8.rd
  have ht' := tok_of_le hle0 ht
  simp only [rd_len hrd, F_attribution_PackingM, g_attribution_PackingM, go_sem, ↓tq_n, ↓tq_e, ↓tq_r, ↓bq_n, ↓bq_e, ↓bq_r, ↓rq_n, ↓rq_r, ↓rq_e]
  refine awp_tok 14 2 (nl := true) (n := 0) (cs := []) rfl fun t1 ht1 => ?_
  obtain ⟨k1, k2⟩ := tok_fresh ht1
  have k2' := tok_of_le hle0 k2
  refine awp_loop (fun i : Nat => [(0, I m), (1, .sl n1 a.length (prs a) u1), (2, .sl n2 w.length (i64s w) u2), (10, x), (12, gl (lls O) O.length (.tok t)), (13, I b), (14, gl (prs (sub a (left.take i))) i (.tok t1)), (40, x), (41, I left.length), (42, I i)]) (fun i => (H.setTok t O.length 1).setTok t1 i 2) (fun i => i ≤ left.length) (fun i => left.length - i) 0 (Nat.zero_le _) (GStep.forget (by repeat' first | exact EnvLe.nil _ | refine EnvLe.cons (AV.le.of_eq rfl) ?_ | refine EnvLe.cons (AV.le.undef _) ?_ | refine EnvLe.cons AV.le.unk ?_) (by repeat' first | exact AH.le.refl _ | assumption | (refine AH.le_put ?_ (by first | assumption | exact (AH.blk_put_ne _ _ (by assumption)).trans (by assumption) | exact AH.none_put (by assumption) | exact AH.none_put (AH.none_put (by assumption)) | (simp only [AH.blk_setTok, AH.tok_put] at *; first | assumption | exact AH.none_put (by assumption)))) | (refine AH.le_setTok ?_ (by first | assumption | exact (AH.blk_put_ne _ _ (by assumption)).trans (by assumption) | exact AH.none_put (by assumption) | exact AH.none_put (AH.none_put (by assumption)) | (simp only [AH.blk_setTok, AH.tok_put] at *; first | assumption | exact AH.none_put (by assumption)))) | (refine AH.le_putM ?_ (by first | assumption | exact (AH.mp_putM_ne _ _ (by assumption)).trans (by assumption) | (simp only [AH.mp_put, AH.mp_setTok] at *; assumption))))) fun i hi => .of_vg hm ?_
  by_cases h3 : i < left.length
  · have hc : (i : Int) < (left.length : Int) := by omega
    obtain ⟨i1, i2, i3⟩ := ix_at y1 h3
    have e1 := sub_take a left h3
    have l1 : (prs (sub a (left.take i))).length = i * 2 := by rw [prs_len, sub_tl a left i hi]
    have hr1 : Rd ((H.setTok t O.length 1).setTok t1 i 2) x left := rd_blk hrd rfl
    have hi0 : (0 : Int) ≤ (i : Int) := by omega
    simp only [hc, hi0, rd_ix hr1, rd_ld hr1 h3, i1, i2, prs_drop i3, l1, F_attribution_PackingM, g_attribution_PackingM, go_sem, ↓tq_n, ↓tq_e, ↓tq_r, ↓bq_n, ↓bq_e, ↓bq_r, ↓rq_n, ↓rq_r, ↓rq_e]
    refine ⟨by omega, by omega, by rw [inR64]; omega, i + 1, by omega, by omega, ?_⟩
    rw [e1, prs_append, prs_one]
    exact (GStep.forget (by repeat' first | exact EnvLe.nil _ | refine EnvLe.cons (AV.le.of_eq rfl) ?_ | refine EnvLe.cons (AV.le.undef _) ?_ | refine EnvLe.cons AV.le.unk ?_) (by repeat' first | exact AH.le.refl _ | assumption | (refine AH.le_put ?_ (by first | assumption | exact (AH.blk_put_ne _ _ (by assumption)).trans (by assumption) | exact AH.none_put (by assumption) | exact AH.none_put (AH.none_put (by assumption)) | (simp only [AH.blk_setTok, AH.tok_put] at *; first | assumption | exact AH.none_put (by assumption)))) | (refine AH.le_setTok ?_ (by first | assumption | exact (AH.blk_put_ne _ _ (by assumption)).trans (by assumption) | exact AH.none_put (by assumption) | exact AH.none_put (AH.none_put (by assumption)) | (simp only [AH.blk_setTok, AH.tok_put] at *; first | assumption | exact AH.none_put (by assumption)))) | (refine AH.le_putM ?_ (by first | assumption | exact (AH.mp_putM_ne _ _ (by assumption)).trans (by assumption) | (simp only [AH.mp_put, AH.mp_setTok] at *; assumption)))))
  have h3 : i = left.length := by omega
  subst h3
  have g1 : gl (prs (sub a (left.take left.length))) left.length (.tok t1) = .sl (decide (left.length = 0)) (sub a left).length (prs (sub a left)) (.tok t1) := by rw [List.take_length, sub_len]; rfl
  simp only [F_attribution_PackingM, g_attribution_PackingM, go_sem, ↓tq_n, ↓tq_e, ↓tq_r, ↓bq_n, ↓bq_e, ↓bq_r, ↓rq_n, ↓rq_r, ↓rq_e]
  rw [g1]
  refine CallG.mk (r_contradiction_Smallest m _ (sub a left) _ _) ?_
  cases hs : smF (sub a left) m with
  | none =>
    rw [smV_none hel hs]
    rw [pkF_none hs] at y6 y7
    simp only [List.append_nil, Int.add_zero] at y6 y7
    simp only [F_attribution_PackingM, g_attribution_PackingM, go_sem, ↓tq_n, ↓tq_e, ↓tq_r, ↓bq_n, ↓bq_e, ↓bq_r, ↓rq_n, ↓rq_r, ↓rq_e]
    rw [← y6, ← y7]
    refine ret_le (AH.le_setTok (AH.le_setTok hle0 ht') k2') ?_
    exact AV.le.tupC (CLe.cons AV.le.glU (CLe.cons (AV.le.refl _) (CLe.cons (AV.le.refl _) CLe.nil)))
  | some s =>
    rw [smV_some hel hs]
    obtain ⟨p1, p2, p3⟩ := pk_ix he y1 hs
    obtain ⟨f, rfl⟩ : ∃ g, f = g + 1 := ⟨f - 1, by
      have := ix_len p1
      omega⟩
    rw [pkF_some hs] at y6 y7
    have p4 := rmv_lt he y1 hs
    have p5 := pick_len he y1 hs (left := left)
    have p6 := pick_ix he y1 hs
    obtain ⟨T, hT⟩ : ∃ T, T = pick left s := ⟨_, rfl⟩
    rw [← hT] at y6 y7 p4 p5 p6
    have hTl := ix_len p6
    simp only [F_attribution_PackingM, g_attribution_PackingM, go_sem, ↓tq_n, ↓tq_e, ↓tq_r, ↓bq_n, ↓bq_e, ↓bq_r, ↓rq_n, ↓rq_r, ↓rq_e]
    refine AllocG.mk fun bT hbT => ?_
    have hbT : H.blk bT = none := hbT
    simp only [F_attribution_PackingM, g_attribution_PackingM, go_sem, ↓tq_n, ↓tq_e, ↓tq_r, ↓bq_n, ↓bq_e, ↓bq_r, ↓rq_n, ↓rq_r, ↓rq_e]
    refine awp_tokB bT 0 1 (nl := true) (n := 0) (cs := []) (AH.blk_put _ _ _) rfl fun t2 ht2 => ?_
    obtain ⟨k3, k4⟩ := tok_fresh (show ((H.setTok t O.length 1).setTok t1 left.length 2).tok t2 = none from ht2)
    obtain ⟨k5, k6⟩ := tok_fresh k4
    refine awp_loop (fun i : Nat => [(0, I m), (1, .sl n1 a.length (prs a) u1), (2, .sl n2 w.length (i64s w) u2), (10, x), (12, gl (lls O) O.length (.tok t)), (13, I b), (19, .ptr bT 0), (20, I (lowK w T i)), (64, .sl false s.length (i64s s) .unk), (65, I s.length), (66, I i)]) (fun i => ((H.setTok t O.length 1).setTok t2 i 1).put bT [gl (i64s (T.take i)) i (.tok t2)]) (fun i => i ≤ s.length) (fun i => s.length - i) 0 (Nat.zero_le _) (by simp only [AH.put_put, AH.put_setTok, List.set_cons_zero]; exact GStep.forget (by repeat' first | exact EnvLe.nil _ | refine EnvLe.cons (AV.le.of_eq rfl) ?_ | refine EnvLe.cons (AV.le.undef _) ?_ | refine EnvLe.cons AV.le.unk ?_) (AH.le_put2 (AH.le_setTok2 (AH.le_setTok (AH.le.refl _) ht1)))) fun i hi => .of_vg hm ?_
    by_cases h3 : i < s.length
    · have hc : (i : Int) < (s.length : Int) := by omega
      have hp := pick_get he y1 hs h3
      rw [← hT] at hp
      obtain ⟨i1, i2⟩ := (ix_pw.1 p1).1 _ (mem_getD (d := 0) h3)
      have i3 : (s.getD i 0).toNat < left.length := by omega
      obtain ⟨j1, j2, j3⟩ := ix_at y1 i3
      have e1 : T.take (i + 1) = T.take i ++ [left.getD (s.getD i 0).toNat 0] := by rw [take_getD 0 (by omega), hp]
      have e2 : lowK w T (i + 1) = min (lowK w T i) (w.getD (left.getD (s.getD i 0).toNat 0).toNat 0) := by simp only [lowK, hp]
      have l1 : (i64s (T.take i)).length = i := by rw [i64s_len, List.length_take]; omega
      have j4 : left.getD (s.getD i 0).toNat 0 < (w.length : Int) := by omega
      have j5 : (left.getD (s.getD i 0).toNat 0).toNat < w.length := by omega
      have hr1 : Rd (((H.setTok t O.length 1).setTok t2 i 1).put bT [gl (i64s (T.take i)) i (.tok t2)]) x left := (rd_blk (g := (H.setTok t O.length 1).setTok t2 i 1) hrd rfl).put hbT _
      have hr2 : Rd (((H.setTok t O.length 1).setTok t2 (i + 1) 1).put bT [gl (i64s (T.take i) ++ [I (left.getD (s.getD i 0).toNat 0)]) (i + 1) (.tok t2)]) x left := (rd_blk (g := (H.setTok t O.length 1).setTok t2 (i + 1) 1) hrd rfl).put hbT _
      simp only [hc, i64s_drop h3, i1, i2, rd_ix hr1, rd_ld hr1 i3, rd_ix hr2, rd_ld hr2 i3, j1, j2, j4, i64s_drop j5, l1, F_attribution_PackingM, g_attribution_PackingM, go_sem, ↓tq_n, ↓tq_e, ↓tq_r, ↓bq_n, ↓bq_e, ↓bq_r, ↓rq_n, ↓rq_r, ↓rq_e]
      refine ⟨by omega, by omega, by rw [inR64]; omega, i + 1, by omega, by omega, ?_⟩
      rw [e1, e2, i64s_append]
      exact (GStep.forget (by repeat' first | exact EnvLe.nil _ | refine EnvLe.cons (AV.le.of_eq rfl) ?_ | refine EnvLe.cons (AV.le.undef _) ?_ | refine EnvLe.cons AV.le.unk ?_) (by repeat' first | exact AH.le.refl _ | assumption | (refine AH.le_put ?_ (by first | assumption | exact (AH.blk_put_ne _ _ (by assumption)).trans (by assumption) | exact AH.none_put (by assumption) | exact AH.none_put (AH.none_put (by assumption)) | (simp only [AH.blk_setTok, AH.tok_put] at *; first | assumption | exact AH.none_put (by assumption)))) | (refine AH.le_setTok ?_ (by first | assumption | exact (AH.blk_put_ne _ _ (by assumption)).trans (by assumption) | exact AH.none_put (by assumption) | exact AH.none_put (AH.none_put (by assumption)) | (simp only [AH.blk_setTok, AH.tok_put] at *; first | assumption | exact AH.none_put (by assumption)))) | (refine AH.le_putM ?_ (by first | assumption | exact (AH.mp_putM_ne _ _ (by assumption)).trans (by assumption) | (simp only [AH.mp_put, AH.mp_setTok] at *; assumption)))))
    have h3 : i = s.length := by omega
    subst h3
    have g2 : gl (i64s (T.take s.length)) s.length (.tok t2) = .sl false T.length (i64s T) (.tok t2) := by rw [← p5, List.take_length, gl_pos (by omega)]
    rw [g2]
    have hlo := lowK_bd hWl T s.length
    have l2 : (lls O).length = O.length := lls_len O
    simp only [l2, tok_ne k5.symm, F_attribution_PackingM, g_attribution_PackingM, go_sem, ↓tq_n, ↓tq_e, ↓tq_r, ↓bq_n, ↓bq_e, ↓bq_r, ↓rq_n, ↓rq_r, ↓rq_e]
    obtain ⟨_, ⟨hl0, _⟩ | ⟨b0, q0, more, rfl, hq0, hb0, hn0⟩⟩ := y8
    · rw [hl0] at p4
      exact absurd p4 (Nat.not_lt_zero _)
    have hne : b0 ≠ bT := fun hh => by rw [hh, hbT] at hb0; cases hb0
    refine ⟨by omega, by omega, by rw [inR64]; omega, CallS.mk (s_DeleteFunc left T 34 [.ptr bT 0] b0 q0 more _ ((AH.blk_put_ne _ _ hne).trans hb0) hq0 (by omega) fun v hv cs => r_attribution_Packing_1 v bT T false (.tok t2) _ ((AH.blk_put_ne _ _ hne.symm).trans (AH.blk_put _ _ _))) fun r g hrg => ?_⟩
    obtain ⟨more', rfl, rfl⟩ := hrg
    simp only [F_attribution_PackingM, g_attribution_PackingM, go_sem, ↓tq_n, ↓tq_e, ↓tq_r, ↓bq_n, ↓bq_e, ↓bq_r, ↓rq_n, ↓rq_r, ↓rq_e]
    rw [p5] at y7
    simp only at y6 y7
    have e9 : gl (lls (O ++ [T])) (O.length + 1) (.tok t) = gl (lls (O ++ [T])) (O ++ [T]).length (.tok t) := by rw [List.length_append]; rfl
    have hre := rmv_ix y1 T
    refine ⟨(f, rmv left T, O ++ [T], b + lowK w T s.length, .msl b0 0 (rmv left T).length (some q0), H.put b0 (i64s (rmv left T) ++ more')), ⟨hre, by simp only; omega, by simp only [List.length_append, List.length_singleton]; omega, by simp only; omega, by simp only [List.length_append, List.length_singleton]; omega, by simp only [List.append_assoc, List.singleton_append]; exact y6, by simp only; omega, ⟨AH.le_put hle0 hn0, .inr ⟨b0, q0, more', rfl, Nat.le_trans (Nat.le_of_lt p4) hq0, AH.blk_put _ _ _, hn0⟩⟩, ht⟩, Nat.lt_succ_self f, ?_⟩
    simp only [← e9, List.length_append, List.length_singleton, AH.put_setTok]
    exact GStep.forget (by repeat' first | exact EnvLe.nil _ | refine EnvLe.cons (AV.le.of_eq rfl) ?_ | refine EnvLe.cons (AV.le.undef _) ?_ | refine EnvLe.cons AV.le.unk ?_ | refine EnvLe.cons lls_le ?_) (AH.le_put2 (AH.le_put (AH.le_setTok2 (AH.le_setTok (AH.le_setTok (AH.le.refl _) ht) k6)) hbT))
end Go.Proofs.YtidmekdkfiljjaaGreat
namespace Go.Proofs.YtidmekdkfiljjaaGreat
open Go Go.Abs
set_option linter.unusedSimpArgs false
set_option linter.unusedVariables false
set_option linter.unusedSectionVars false
set_option maxRecDepth 20000

theorem sub_pick (a : List (Int × Int)) {left s : List Int} (hs : ∀ k ∈ s, 0 ≤ k ∧ k < left.length) : sub (sub a left) s = sub a (pick left s) := by
  unfold sub pick
  rw [List.map_map]
  refine List.map_congr_left fun k hk => ?_
  have := hs k hk
  simp [List.getD, show k.toNat < left.length by omega]
section
variable {n : Nat} {a : List (Int × Int)} (he : Ev n a) {left : List Int} (hl : Ix a.length left) {s : List Int} (hs : smF (sub a left) n = some s)
include he hl hs
theorem pick_good : Good n a (pick left s) := by
  have h := pk_ix he hl hs
  refine ⟨pick_ix he hl hs, ?_⟩
  rw [← sub_pick a (ix_pw.1 h.1).1]
  exact h.2.2.2
end
section
variable {n : Nat} {a : List (Int × Int)} (he : Ev n a)
include he
end
theorem lowK_le {w T : List Int} : ∀ {k j : Nat}, j < k → lowK w T k ≤ w.getD (T.getD j 0).toNat 0 := by
  intro k
  induction k with
  | zero => intro j h; exact absurd h (Nat.not_lt_zero _)
  | succ k ih =>
    intro j h
    simp only [lowK]
    rcases Nat.lt_succ_iff_lt_or_eq.1 h with h | rfl
    · have := ih h; omega
    · omega
/-- A set with a contradictory part is contradictory. -/
theorem cy_part {n : Nat} {a : List (Int × Int)} (he : Ev n a) {s t : List Int} (hs : Ix a.length s) (ht : Ix a.length t) (h : ∀ x ∈ s, x ∈ t) (hc : cyB n (sub a s) = true) : cyB n (sub a t) = true := by
  obtain ⟨ks, u, h1, h2, h3⟩ := (cy_iff he hs).1 hc
  exact (cy_iff he ht).2 ⟨ks, u, h1, h2, fun k hk => h _ (h3 k hk)⟩
/-- What repairs has an index of each contradictory set. -/
theorem rep_hits {n : Nat} {a : List (Int × Int)} (he : Ev n a) {t P : List Int} (hP : Good n a P) (h : cyB n (sub a (nats (rsK t a.length))) = false) : ∃ x, x ∈ P ∧ x ∈ t := by
  by_cases hx : ∃ x, x ∈ P ∧ x ∈ t
  · exact hx
  · have := cy_part he hP.1 (rsK_ix t a.length) (fun x hxP => by
      have hb := (ix_pw.1 hP.1).1 x hxP
      obtain ⟨k, rfl⟩ : ∃ k : Nat, x = k := ⟨x.toNat, by omega⟩
      exact mem_nats.2 (mem_rsK.2 ⟨by omega, fun hh => hx ⟨_, hxP, hh⟩⟩)) hP.2
    rw [h] at this; cases this
/-- What repairs costs at least what the sets of the packing cost. -/
theorem pk_cost {n : Nat} {a : List (Int × Int)} {w : List Int} (he : Ev n a) (hw : ∀ i, 0 ≤ w.getD i 0) {t : List Int} (h : cyB n (sub a (nats (rsK t a.length))) = false) : ∀ (f : Nat) (left : List Int), Ix a.length left → (pkF n a w f left).2 ≤ sumK w (fun i => decide ((i : Int) ∈ t) && decide ((i : Int) ∈ left)) a.length := by
  intro f
  induction f with
  | zero => intro left _; exact sumK_nonneg fun i _ => hw i
  | succ f ih =>
    intro left hl
    cases hs : smF (sub a left) n with
    | none => rw [pkF_none hs]; exact sumK_nonneg fun i _ => hw i
    | some s =>
      rw [pkF_some hs]
      have g1 := pick_good he hl hs
      have g3 : ∀ x ∈ pick left s, x ∈ left := fun x hx => pick_mem he hl hs hx
      obtain ⟨T, hT⟩ : ∃ T, T = pick left s := ⟨_, rfl⟩
      rw [← hT] at g1 g3 ⊢
      have hi := ih (rmv left T) (rmv_ix hl T)
      obtain ⟨x, x1, x2⟩ := rep_hits he g1 h
      have hb := (ix_pw.1 g1.1).1 x x1
      obtain ⟨k, rfl⟩ : ∃ k : Nat, x = k := ⟨x.toNat, by omega⟩
      obtain ⟨j, hj, ej⟩ := List.getElem_of_mem x1
      have hlo := lowK_le (w := w) (T := T) hj
      have ej2 : T.getD j 0 = (k : Int) := by simp [List.getD, hj, ej]
      rw [ej2, Int.toNat_natCast] at hlo
      have h1 := sumK_one_le (w := w) (P := fun i => decide ((i : Int) ∈ t) && decide ((i : Int) ∈ T)) (k := a.length) (j := k) (fun i _ => hw i) (by omega) (by simp [x1, x2])
      have h2 := sumK_or (w := w) (P := fun i => decide ((i : Int) ∈ t) && decide ((i : Int) ∈ T)) (Q := fun i => decide ((i : Int) ∈ t) && decide ((i : Int) ∈ rmv left T)) (k := a.length) (fun i _ hh => by
        have e1 := hh.1
        have e2 := hh.2
        simp only [Bool.and_eq_true, decide_eq_true_eq] at e1 e2
        have := (List.mem_filter.1 e2.2).2
        simp [e1.2] at this)
      have h3 : sumK w (fun i => (decide ((i : Int) ∈ t) && decide ((i : Int) ∈ T)) || (decide ((i : Int) ∈ t) && decide ((i : Int) ∈ rmv left T))) a.length = sumK w (fun i => decide ((i : Int) ∈ t) && decide ((i : Int) ∈ left)) a.length := sumK_congr fun i _ => by
        rw [Bool.eq_iff_iff]
        simp only [Bool.or_eq_true, Bool.and_eq_true, decide_eq_true_eq, rmv, List.mem_filter, Bool.not_eq_true', decide_eq_false_iff_not]
        by_cases hT2 : (i : Int) ∈ T
        · have := g3 _ hT2
          simp_all
        · simp_all
      simp only
      omega
theorem pk_cost_set {n : Nat} {a : List (Int × Int)} {w : List Int} (he : Ev n a) (hw : ∀ i, 0 ≤ w.getD i 0) {t : List Int} (ht : Ix a.length t) (h : cyB n (sub a (nats (rsK t a.length))) = false) (f : Nat) {left : List Int} (hl : Ix a.length left) : (pkF n a w f left).2 ≤ csK w t t.length := by
  have h1 := pk_cost he hw h f left hl
  rw [cs_set ht]
  have h2 := sumK_sub (w := w) (P := fun i => decide ((i : Int) ∈ t) && decide ((i : Int) ∈ left)) (Q := fun i => decide ((i : Int) ∈ t)) (k := a.length) (fun i _ => hw i) (fun i _ hp => by simp only [Bool.and_eq_true] at hp; exact hp.1)
  omega
end Go.Proofs.YtidmekdkfiljjaaGreat
namespace Go.Proofs.YtidmekdkfiljjaaGreat
open Go Go.Abs
set_option linter.unusedSimpArgs false
set_option linter.unusedVariables false
set_option maxRecDepth 20000

theorem sub_all (a : List (Int × Int)) : sub a (nats (List.range a.length)) = a := by
  apply List.ext_getElem
  · simp [sub, nats]
  · intro i h1 h2
    simp [sub, nats, List.getD, h2]
theorem rsK_nil (k : Nat) : rsK [] k = List.range k := by simp [rsK]
theorem leV_yes {n : Nat} {a : List (Int × Int)} {w : List Int} (h : chkE n a w = 0) : ∃ nl q, leV n a w = .tup [.sl nl (nats (Bl a q)).length (i64s (nats (Bl a q))) .unk, I (tot n a w), I 0] ∧ Opt n a w q := by
  obtain ⟨⟨q, q1, q2⟩, _⟩ := lsK_first (n := n) (okc_w1 (chk_ok.1 h))
  refine ⟨decide ((nats (Bl a q)).length = 0), q, ?_, q1⟩
  unfold leV
  rw [if_pos h, Int.toNat_natCast, q2]
  rfl
theorem tot_zero {n : Nat} {a : List (Int × Int)} {w : List Int} (h : chkE n a w = 0) : tot n a w = 0 ↔ cyB n a = false := by
  have hok := chk_ok.1 h
  have he := hok.2.2.1
  have hw1 := okc_w1 hok
  obtain ⟨nl, q, e1, q1⟩ := leV_yes h
  have hb := (sumK_nonneg (w := w) (P := bB a q) (k := a.length) hw1.ok)
  have hbc : bc a w q = sumK w (bB a q) a.length := rfl
  have hqt : bc a w q = tot n a w := q1.2.2
  constructor
  · intro h0
    have hno : ∀ i, i < a.length → bB a q i = true → (i : Int) ∈ ([] : List Int) := fun i hi hh => by
      have h1 := sumK_one_le (w := w) (P := bB a q) (k := a.length) (j := i) hw1.ok hi hh
      have h2 := hok.2.2.2.2 i (by have := hok.2.2.2.1; omega)
      omega
    have := bl_repairs he q1.1 q1.2.1 hno
    rw [rsK_nil, sub_all] at this
    exact this
  · intro hc
    have hr : rpB n a w [] = true := rpB_iff.2 ⟨⟨hok, fun i hi => absurd hi (Nat.not_lt_zero _)⟩, by rw [rsK_nil, sub_all]; exact hc⟩
    have := rp_ge hok hr
    simp only [csK, List.length_nil] at this
    omega
end Go.Proofs.YtidmekdkfiljjaaGreat
namespace Go.Proofs.YtidmekdkfiljjaaGreat
open Go Go.Abs
set_option maxRecDepth 100000
abbrev n_contradiction_whole : Nat := 37
def g_contradiction_whole : Cfg := ⟨16, [0, 2, 3, 4, 6, 7, 8], [], [], [], [], [], []⟩
def F_contradiction_whole : CFn := ⟨(.seq (.reg [⟨(.some 2), (.mv (.c (.sl true 0 [] .full))), .none, 0⟩]) (.seq (.reg [⟨(.some 3), (.mv (.c (.sl true 0 [] .full))), .none, 0⟩]) (.seq (.seq (.reg [⟨(.some 5), (.mv (.t 0)), .none, 0⟩, ⟨(.some 6), (.len (.t 5)), .none, 0⟩, ⟨(.some 7), (.mv (.c (.int .i64 0))), .none, 0⟩]) (.block 0 (.loop (.seq (.reg [⟨(.some 8), (.bin .lss (.t 7) (.t 6)), .none, 0⟩]) (.seq (.cond (.t 8) .skip (.exit 0)) (.seq (.block 1 (.seq (.reg [⟨(.some 9), (.mv (.t 7)), .none, 0⟩, ⟨(.some 4), (.mv (.t 9)), .none, 0⟩]) (.reg [⟨(.some 10), (.mv (.t 3)), .none, 0⟩, ⟨(.some 11), (.mv (.t 4)), .none, 0⟩, ⟨(.some 12), (.buildSlice 1 1 [(.int .i64 0)] [(0, (1, (.t 11)))]), .none, 0⟩, ⟨(.some 13), (.append 1 8 (.t 10) (.t 12)), .none, 1⟩, ⟨(.some 3), (.mv (.t 13)), .none, 0⟩]))) (.reg [⟨(.some 14), (.bin .add (.t 7) (.c (.int .i64 1))), .none, 0⟩, ⟨(.some 7), (.mv (.t 14)), .none, 0⟩]))))))) (.seq (.reg [⟨(.some 15), (.mv (.t 3)), .none, 0⟩, ⟨(.some 2), (.mv (.t 15)), .none, 0⟩]) .ret)))), [(.t 2)]⟩
theorem cF_contradiction_whole : cFn Tryz.prog n_contradiction_whole g_contradiction_whole = some F_contradiction_whole := by kernel_rfl
abbrev n_contradiction_Blame : Nat := 12
def g_contradiction_Blame : Cfg := ⟨42, [0, 1, 4, 5, 6, 7, 8, 9, 13, 19, 20, 21, 22, 35], [36], [], [], [], [], [9]⟩
def F_contradiction_Blame : CFn := ⟨(.seq (.reg [⟨(.some 4), (.mv (.c (.sl true 0 [] .full))), .none, 0⟩, ⟨(.some 5), (.mv (.c (.int .i64 0))), .none, 0⟩]) (.seq (.seq (.reg [⟨(.some 10), (.mv (.t 0)), .none, 0⟩, ⟨(.some 11), (.mv (.t 1)), .none, 0⟩, ⟨(.some 12), (.call 22 [(.t 10), (.t 11)]), .none, 0⟩, ⟨(.some 13), (.un .not (.t 12)), .none, 0⟩]) (.cond (.t 13) (.seq (.reg [⟨(.some 4), (.mv (.c (.sl true 0 [] .full))), .none, 0⟩, ⟨(.some 5), (.mv (.c (.int .i64 1))), .none, 0⟩]) .ret) .skip)) (.seq (.reg [⟨(.some 14), (.mv (.t 0)), .none, 0⟩, ⟨(.some 15), (.mv (.t 1)), .none, 0⟩, ⟨(.some 16), (.mv (.t 1)), .none, 0⟩, ⟨(.some 17), (.call 37 [(.t 16)]), .none, 0⟩, ⟨(.some 18), (.call 36 [(.t 14), (.t 15), (.t 17)]), .none, 2⟩, ⟨(.some 6), (.mv (.t 18)), .none, 0⟩]) (.seq (.reg [⟨(.some 7), (.mv (.c (.sl true 0 [] .full))), .none, 0⟩]) (.seq (.seq (.reg [⟨(.some 19), (.mv (.t 1)), .none, 0⟩, ⟨(.some 20), (.len (.t 19)), .none, 0⟩, ⟨(.some 21), (.mv (.c (.int .i64 0))), .none, 0⟩]) (.block 0 (.loop (.seq (.reg [⟨(.some 22), (.bin .lss (.t 21) (.t 20)), .none, 0⟩]) (.seq (.cond (.t 22) .skip (.exit 0)) (.seq (.block 1 (.seq (.reg [⟨(.some 23), (.mv (.t 21)), .none, 0⟩, ⟨(.some 24), (.indexAddr 2 (.t 19) (.t 21)), .none, 0⟩, ⟨(.some 25), (.load (.some 2) (.t 24)), .none, 0⟩, ⟨(.some 8), (.mv (.t 23)), .none, 0⟩, ⟨(.some 9), (.boxF (.some 2) (.t 25)), .none, 0⟩]) (.seq (.reg [⟨(.some 26), (.mv (.t 6)), .none, 0⟩, ⟨(.some 27), (.fieldAddr 1 (.t 9)), .none, 0⟩, ⟨(.some 28), (.load .none (.t 27)), .none, 0⟩, ⟨(.some 29), (.indexAddr 1 (.t 26) (.t 28)), .none, 0⟩, ⟨(.some 30), (.load .none (.t 29)), .none, 0⟩, ⟨(.some 31), (.fieldAddr 0 (.t 9)), .none, 0⟩, ⟨(.some 32), (.load .none (.t 31)), .none, 0⟩, ⟨(.some 33), (.bin .shr (.t 30) (.t 32)), .none, 0⟩, ⟨(.some 34), (.bin .and (.t 33) (.c (.int .u32 1))), .none, 0⟩, ⟨(.some 35), (.bin .neq (.t 34) (.c (.int .u32 0))), .none, 0⟩]) (.cond (.t 35) (.reg [⟨(.some 36), (.mv (.t 7)), .none, 0⟩, ⟨(.some 37), (.mv (.t 8)), .none, 0⟩, ⟨(.some 38), (.buildSlice 1 1 [(.int .i64 0)] [(0, (1, (.t 37)))]), .none, 0⟩, ⟨(.some 39), (.append 1 8 (.t 36) (.t 38)), .none, 1⟩, ⟨(.some 7), (.mv (.t 39)), .none, 0⟩]) .skip)))) (.reg [⟨(.some 40), (.bin .add (.t 21) (.c (.int .i64 1))), .none, 0⟩, ⟨(.some 21), (.mv (.t 40)), .none, 0⟩]))))))) (.seq (.reg [⟨(.some 41), (.mv (.t 7)), .none, 0⟩, ⟨(.some 4), (.mv (.t 41)), .none, 0⟩, ⟨(.some 5), (.mv (.c (.int .i64 0))), .none, 0⟩]) .ret)))))), [(.t 4), (.t 5)]⟩
theorem cF_contradiction_Blame : cFn Tryz.prog n_contradiction_Blame g_contradiction_Blame = some F_contradiction_Blame := by kernel_rfl
end Go.Proofs.YtidmekdkfiljjaaGreat
