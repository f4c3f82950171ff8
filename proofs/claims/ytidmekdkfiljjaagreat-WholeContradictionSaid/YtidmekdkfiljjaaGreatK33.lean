/- Calls of functions of this seat's program: the digraph of pieces. No condition. -/
import Derived.Test.YtidmekdkfiljjaaGreatK32
import Derived.Test.YtidmekdkfiljjaaGreatK29
import Derived.Test.YtidmekdkfiljjaaGreatK31
import Derived.Test.YtidmekdkfiljjaaGreatK19
import Derived.Test.YtidmekdkfiljjaaGreatProg
import Derived.Test.YtidmekdkfiljjaaGreatK23
import Derived.Test.YtidmekdkfiljjaaGreatK24
namespace Go.Proofs.YtidmekdkfiljjaaGreat.P
open Go Go.Abs
set_option linter.unusedSimpArgs false
set_option linter.unusedVariables false
set_option maxRecDepth 20000

/-- The ends of pieces, in order, each once. -/
def enA (P : List (Int × Int × Int)) : List (Int × Int) := P.map fun p => (p.2.1, p.2.2)
def arcL (P : List (Int × Int × Int)) : List (Int × Int) := ddP (sP cf2 (enA P)) (sP cf2 (enA P)).length
theorem enA_len (P : List (Int × Int × Int)) : (enA P).length = P.length := by simp [enA]
theorem enA_succ (P : List (Int × Int × Int)) {j : Nat} (h : j < P.length) : enA (P.take (j + 1)) = enA (P.take j) ++ [((P.getD j (0, 0, 0)).2.1, (P.getD j (0, 0, 0)).2.2)] := by
  rw [take_getD (0, 0, 0) h]; simp [enA]
theorem sP_ord (l : List (Int × Int)) : ∀ i j, i ≤ j → j < (sP cf2 l).length → ¬ Lx ((sP cf2 l).getD j (0, 0)) ((sP cf2 l).getD i (0, 0)) := by
  intro i j hij hj
  rcases Nat.lt_or_eq_of_le hij with h | h
  · have hs : (sP cf2 l).Pairwise fun x y => (!(Go.Proofs.ltOf cf2) y x) = true := List.pairwise_mergeSort (le := fun x y => !(Go.Proofs.ltOf cf2) y x)
      (fun a b c => by
        simp only [Bool.not_eq_true', Bool.eq_false_iff, ne_eq, lt2_iff]
        unfold Lx; omega)
      (fun a b => by
        simp only [Bool.or_eq_true, Bool.not_eq_true', Bool.eq_false_iff, ne_eq, lt2_iff]
        unfold Lx; omega) l
    have := List.pairwise_iff_getElem.1 hs i j (by omega) hj h
    simp only [Bool.not_eq_true', Bool.eq_false_iff, ne_eq, lt2_iff] at this
    simp only [List.getD_eq_getElem?_getD, List.getElem?_eq_getElem hj, List.getElem?_eq_getElem (show i < (sP cf2 l).length by omega), Option.getD_some]
    exact this
  · subst h; exact Lx.irr
theorem arcL_asc (P : List (Int × Int × Int)) : (arcL P).Pairwise Lx := ddP_asc (sP_ord _) _ (Nat.le_refl _)
theorem mem_arcL {P : List (Int × Int × Int)} {x : Int × Int} : x ∈ arcL P ↔ ∃ p ∈ P, (p.2.1, p.2.2) = x := by
  unfold arcL
  rw [ddP_mem]
  have e1 : (∃ j, j < (sP cf2 (enA P)).length ∧ (sP cf2 (enA P)).getD j (0, 0) = x) ↔ x ∈ sP cf2 (enA P) := by
    constructor
    · rintro ⟨j, h1, rfl⟩; exact mem_getD h1
    · intro h
      obtain ⟨j, h1, h2⟩ := List.getElem_of_mem h
      exact ⟨j, h1, by simp [List.getD, h1, h2]⟩
  rw [e1, (sP_perm cf2 (enA P)).mem_iff]
  simp [enA]
theorem arcL_len (P : List (Int × Int × Int)) : (arcL P).length ≤ P.length := by
  have h1 := ddP_len (sP cf2 (enA P)) (sP cf2 (enA P)).length
  rw [sP_len, enA_len] at h1
  unfold arcL
  rw [sP_len, enA_len]
  exact h1
set_option maxHeartbeats 2000000 in
theorem r_precedence_evidence_arcs (nl : Bool) (l : List Spm) (tl : Tail) (P : List (Int × Int × Int)) (hPl : P.length ≤ 50000) (h : AH) : RCall Tryz.prog n_precedence_evidence_arcsW [.st [.sl nl l.length (sms l) tl, gl (trs P) P.length .unk]] h (gl (prs (arcL P)) (arcL P).length .unk) := by
  refine RCall.of hm cF_precedence_evidence_arcsW (by simp [g_precedence_evidence_arcsW]) fun hw h' hl => ?_
  simp only [F_precedence_evidence_arcsW, g_precedence_evidence_arcsW, go_sem, ↓tq_n, ↓tq_e, ↓tq_r, ↓bq_n, ↓bq_e, ↓bq_r, ↓rq_n, ↓rq_r, ↓rq_e]
  refine awp_loop (α := Nat × AV × AH) (fun p => [(3, p.2.1), (7, gl (trs P) P.length .unk), (8, I P.length), (9, I p.1)]) (fun p => p.2.2) (fun p => p.1 ≤ P.length ∧ Gr2 h' p.2.1 (enA (P.take p.1)) p.2.2) (fun p => P.length - p.1) (0, .sl true 0 [] .full, h') ⟨Nat.zero_le _, by simpa [enA] using Gr2.new h'⟩ (GStep.forget (by repeat' first | exact EnvLe.nil _ | refine EnvLe.cons (AV.le.of_eq rfl) ?_ | refine EnvLe.cons (AV.le.undef _) ?_ | refine EnvLe.cons AV.le.unk ?_) (by repeat' first | exact AH.le.refl _ | assumption | (refine AH.le_put ?_ (by first | assumption | exact (AH.blk_put_ne _ _ (by assumption)).trans (by assumption) | exact AH.none_put (by assumption) | exact AH.none_put (AH.none_put (by assumption)) | (simp only [AH.blk_setTok, AH.tok_put] at *; first | assumption | exact AH.none_put (by assumption)))) | (refine AH.le_setTok ?_ (by first | assumption | exact (AH.blk_put_ne _ _ (by assumption)).trans (by assumption) | exact AH.none_put (by assumption) | exact AH.none_put (AH.none_put (by assumption)) | (simp only [AH.blk_setTok, AH.tok_put] at *; first | assumption | exact AH.none_put (by assumption)))) | (refine AH.le_putM ?_ (by first | assumption | exact (AH.mp_putM_ne _ _ (by assumption)).trans (by assumption) | (simp only [AH.mp_put, AH.mp_setTok] at *; assumption))))) fun p hp => .of_vg hm ?_
  obtain ⟨j, x, H⟩ := p
  obtain ⟨h3, h4⟩ := hp
  simp only at h3 h4 ⊢
  by_cases h5 : j < P.length
  · have hc : (j : Int) < (P.length : Int) := by omega
    have hel : (enA (P.take j)).length ≤ 100000 := by rw [enA_len, List.length_take]; omega
    simp only [hc, trs_drop h5, F_precedence_evidence_arcsW, g_precedence_evidence_arcsW, go_sem, ↓tq_n, ↓tq_e, ↓tq_r, ↓bq_n, ↓bq_e, ↓bq_r, ↓rq_n, ↓rq_r, ↓rq_e]
    refine h4.step hel (v := ((P.getD j (0, 0, 0)).2.1, (P.getD j (0, 0, 0)).2.2)) fun x' H' hk => ?_
    simp only [F_precedence_evidence_arcsW, g_precedence_evidence_arcsW, go_sem, ↓tq_n, ↓tq_e, ↓tq_r, ↓bq_n, ↓bq_e, ↓bq_r, ↓rq_n, ↓rq_r, ↓rq_e]
    refine ⟨by rw [inR64]; omega, (j + 1, x', H'), ⟨by simp only; omega, ?_⟩, by simp only; omega, (GStep.forget (by repeat' first | exact EnvLe.nil _ | refine EnvLe.cons (AV.le.of_eq rfl) ?_ | refine EnvLe.cons (AV.le.undef _) ?_ | refine EnvLe.cons AV.le.unk ?_) (by repeat' first | exact AH.le.refl _ | assumption | (refine AH.le_put ?_ (by first | assumption | exact (AH.blk_put_ne _ _ (by assumption)).trans (by assumption) | exact AH.none_put (by assumption) | exact AH.none_put (AH.none_put (by assumption)) | (simp only [AH.blk_setTok, AH.tok_put] at *; first | assumption | exact AH.none_put (by assumption)))) | (refine AH.le_setTok ?_ (by first | assumption | exact (AH.blk_put_ne _ _ (by assumption)).trans (by assumption) | exact AH.none_put (by assumption) | exact AH.none_put (AH.none_put (by assumption)) | (simp only [AH.blk_setTok, AH.tok_put] at *; first | assumption | exact AH.none_put (by assumption)))) | (refine AH.le_putM ?_ (by first | assumption | exact (AH.mp_putM_ne _ _ (by assumption)).trans (by assumption) | (simp only [AH.mp_put, AH.mp_setTok] at *; assumption)))))⟩
    simp only [enA_succ P h5]
    exact hk
  have h5 : j = P.length := by omega
  subst h5
  rw [List.take_length] at h4
  rcases h4 with ⟨hle, ⟨hz, rfl⟩ | ⟨hne, b, q, rfl, hq, hb, hn⟩⟩
  · simp only [F_precedence_evidence_arcsW, g_precedence_evidence_arcsW, go_sem, ↓tq_n, ↓tq_e, ↓tq_r, ↓bq_n, ↓bq_e, ↓bq_r, ↓rq_n, ↓rq_r, ↓rq_e]
    refine CallS.mk (s_slices_SortFunc_Arc0 true .full _) fun r H' hr => ?_
    obtain ⟨rfl, rfl⟩ := hr
    simp only [F_precedence_evidence_arcsW, g_precedence_evidence_arcsW, go_sem, ↓tq_n, ↓tq_e, ↓tq_r, ↓bq_n, ↓bq_e, ↓bq_r, ↓rq_n, ↓rq_r, ↓rq_e]
    refine CallS.mk (r_slices_Compact0 true .full _) fun r H' hr => ?_
    obtain ⟨rfl, rfl⟩ := hr
    simp only [F_precedence_evidence_arcsW, g_precedence_evidence_arcsW, go_sem, ↓tq_n, ↓tq_e, ↓tq_r, ↓bq_n, ↓bq_e, ↓bq_r, ↓rq_n, ↓rq_r, ↓rq_e]
    have e0 : arcL P = [] := by
      have hP0 : P = [] := List.eq_nil_of_length_eq_zero (by have := enA_len P; rw [hz] at this; simpa using this.symm)
      have := arcL_len P
      rw [hP0] at this
      rw [hP0]
      exact List.eq_nil_of_length_eq_zero (by simpa using this)
    rw [e0]
    exact ret_le hle AV.le.unk
  · have hpos : 1 ≤ (enA P).length := by
      rcases Nat.eq_zero_or_pos (enA P).length with h0 | h0
      · exact absurd (List.eq_nil_of_length_eq_zero h0) hne
      · exact h0
    have hsl := sP_len cf2 (enA P)
    have hel := enA_len P
    simp only [F_precedence_evidence_arcsW, g_precedence_evidence_arcsW, go_sem, ↓tq_n, ↓tq_e, ↓tq_r, ↓bq_n, ↓bq_e, ↓bq_r, ↓rq_n, ↓rq_r, ↓rq_e]
    refine CallS.mk (s_slices_SortFunc_Arc hb rfl (by omega)) fun r H' hr => ?_
    obtain ⟨rfl, rfl⟩ := hr
    simp only [F_precedence_evidence_arcsW, g_precedence_evidence_arcsW, go_sem, ↓tq_n, ↓tq_e, ↓tq_r, ↓bq_n, ↓bq_e, ↓bq_r, ↓rq_n, ↓rq_r, ↓rq_e]
    rw [← hsl]
    refine CallS.mk (s_slices_Compact_Arc (sP cf2 (enA P)) (by omega) (by omega) (q := q) (by omega) (AH.blk_put _ _ _)) fun r H' hr => ?_
    obtain ⟨rfl, rfl⟩ := hr
    simp only [F_precedence_evidence_arcsW, g_precedence_evidence_arcsW, go_sem, ↓tq_n, ↓tq_e, ↓tq_r, ↓bq_n, ↓bq_e, ↓bq_r, ↓rq_n, ↓rq_r, ↓rq_e]
    have hd0 : (arcL P).length ≠ 0 := fun hh => by
      have h0 := List.eq_nil_of_length_eq_zero hh
      have hm0 := (ddP_mem (sP cf2 (enA P)) (sP cf2 (enA P)).length ((sP cf2 (enA P)).getD 0 (0, 0))).2 ⟨0, by omega, rfl⟩
      have : arcL P = ddP (sP cf2 (enA P)) (sP cf2 (enA P)).length := rfl
      rw [← this, h0] at hm0
      simp at hm0
    have e1 : gl (prs (arcL P)) (arcL P).length .unk = .sl false (arcL P).length (prs (arcL P)) .unk := by
      unfold gl; rw [decide_eq_false hd0]
    rw [e1]
    refine ret_le (h0 := h') ?_ (AV.le.refl _)
    refine ⟨fun c cs e => ?_, hle.tok, hle.mp⟩
    have hcb : c ≠ b := fun hh => by subst hh; rw [hn] at e; cases e
    simp only [AH.del, AH.put]
    rw [if_neg hcb, if_neg hcb]
    exact hle.blk c cs e
end Go.Proofs.YtidmekdkfiljjaaGreat.P
namespace Go.Proofs.YtidmekdkfiljjaaGreat.P
open Go Go.Abs
set_option linter.unusedSimpArgs false
set_option linter.unusedVariables false
set_option maxRecDepth 20000

abbrev T3 := Int × Int × Int
def Pc (n : Nat) (P : List T3) : Prop := ∀ p ∈ P, (0 ≤ p.2.1 ∧ p.2.1 < n) ∧ (0 ≤ p.2.2 ∧ p.2.2 < n)
theorem mem_tbK {q : Nat → Nat → Bool} {m i : Nat} {x : Int × Int} : x ∈ tbK q m i ↔ ∃ a k : Nat, a < i ∧ k < m ∧ q a k = true ∧ x = ((a : Int), (k : Int)) := by
  unfold tbK rwK
  simp only [List.mem_flatMap, List.mem_range, List.mem_map, List.mem_filter]
  constructor
  · rintro ⟨a, ha, k, ⟨hk, hq⟩, rfl⟩; exact ⟨a, k, ha, hk, hq, rfl⟩
  · rintro ⟨a, k, ha, hk, hq, rfl⟩; exact ⟨a, ha, k, ⟨hk, hq⟩, rfl⟩
theorem mem_pcs {l : List Spm} {c : List (Int × Int)} {p : T3} : p ∈ pcs l c ↔ (∃ s : Nat, s < 2 ∧ ∃ a k : Nat, a < l.length ∧ k < l.length ∧ bfS (l.getD a dS) (l.getD k dS) s = true ∧ p = ((s : Int), (a : Int), (k : Int))) ∨ ∃ q ∈ c, p = (2, plc l q.1, plc l q.2) := by
  unfold pcs pcS pcS pcS
  simp only [List.mem_append, List.nil_append, List.mem_map, mem_tbK, clP, kin]
  constructor
  · rintro ((⟨x, ⟨a, k, h1, h2, h3, rfl⟩, rfl⟩ | ⟨x, ⟨a, k, h1, h2, h3, rfl⟩, rfl⟩) | ⟨q, hq, rfl⟩)
    · exact .inl ⟨0, by omega, a, k, h1, h2, h3, rfl⟩
    · exact .inl ⟨1, by omega, a, k, h1, h2, h3, rfl⟩
    · exact .inr ⟨q, hq, rfl⟩
  · rintro (⟨s, hs, a, k, h1, h2, h3, rfl⟩ | ⟨q, hq, rfl⟩)
    · have : s = 0 ∨ s = 1 := by omega
      rcases this with rfl | rfl
      · exact .inl (.inl ⟨_, ⟨a, k, h1, h2, h3, rfl⟩, rfl⟩)
      · exact .inl (.inr ⟨_, ⟨a, k, h1, h2, h3, rfl⟩, rfl⟩)
    · exact .inr ⟨q, hq, rfl⟩
theorem plc_lt {l : List Spm} {x : Int} (h : 0 ≤ plc l x) : plc l x < l.length := by
  have := (findI_lt (show 0 ≤ plc l x from h)).1
  have h2 : (plc l x).toNat < l.length := this
  omega
/-- What evidence without error is. -/
theorem ga_ok {l : List Spm} {c : List (Int × Int)} (h : gaE l c = 0) : l.length ≤ 24 ∧ ckE l = 0 ∧ Pc l.length (pcs l c) ∧ (pcs l c).length ≤ 1300 ∧ (∀ p ∈ pcs l c, 0 ≤ p.1) ∧ c.length ≤ 64 ∧ ∀ q ∈ c, (0 ≤ plc l q.1 ∧ 0 ≤ plc l q.2) ∧ plc l q.1 ≠ plc l q.2 := by
  unfold gaE at h
  split at h
  · rename_i hc
    split at h
    · omega
    · rename_i hn
      split at h
      · omega
      · rename_i h7
        split at h
        · omega
        · rename_i h1
          have hl : l.length ≤ 24 := by omega
          have hcl : ∀ q ∈ c, (0 ≤ plc l q.1 ∧ 0 ≤ plc l q.2) ∧ plc l q.1 ≠ plc l q.2 := fun q hq => by
            have a1 : ¬ (plc l q.1 < 0 ∨ plc l q.2 < 0) := fun hh => h7 (List.any_eq_true.2 ⟨q, hq, decide_eq_true hh⟩)
            have a2 : ¬ plc l q.1 = plc l q.2 := fun hh => h1 (List.any_eq_true.2 ⟨q, hq, decide_eq_true hh⟩)
            exact ⟨by omega, a2⟩
          refine ⟨hl, hc, fun p hp => ?_, ?_, fun p hp => ?_, by omega, hcl⟩
          · rcases mem_pcs.1 hp with ⟨s, hs, a, k, h1, h2, h3, rfl⟩ | ⟨q, hq, rfl⟩
            · simp only; omega
            · have hq := (hcl q hq).1
              have q1 := plc_lt hq.1
              have q2 := plc_lt hq.2
              simp only; omega
          · have := pcS_len hl 2
            unfold pcs
            rw [List.length_append, List.length_map]
            omega
          · rcases mem_pcs.1 hp with ⟨s, hs, a, k, h1, h2, h3, rfl⟩ | ⟨q, hq, rfl⟩
            · simp only; omega
            · simp only; omega
  · exact absurd h (by assumption)
end Go.Proofs.YtidmekdkfiljjaaGreat.P
namespace Go.Proofs.YtidmekdkfiljjaaGreat.P
open Go Go.Abs
set_option linter.unusedSimpArgs false
set_option linter.unusedVariables false
set_option maxRecDepth 20000

/-- What Build returns. -/
def blV (l : List Spm) (c : List (Int × Int)) : AV := if gaE l c = 0 then .tup [gl (prs (arcL (pcs l c))) (arcL (pcs l c)).length .unk, I 0] else .tup [.sl true 0 [] .full, I (gaE l c)]
theorem gaV_no {nl : Bool} {l : List Spm} {tl : Tail} {c : List (Int × Int)} (h : ¬ gaE l c = 0) : gaV nl l tl c = .tup [.st [.sl true 0 [] .full, .sl true 0 [] .full], I (gaE l c)] := by unfold gaV; rw [if_neg h]
theorem gaV_yes {nl : Bool} {l : List Spm} {tl : Tail} {c : List (Int × Int)} (h : gaE l c = 0) : gaV nl l tl c = .tup [.st [.sl nl l.length (sms l) tl, gl (trs (pcs l c)) (pcs l c).length .unk], I 0] := by unfold gaV; rw [if_pos h]
theorem r_precedence_Build (nl : Bool) (l : List Spm) (tl : Tail) (n2 : Bool) (c : List (Int × Int)) (u2 : Tail) (h : AH) : RCall Tryz.prog n_precedence_Build [.sl nl l.length (sms l) tl, .sl n2 c.length (prs c) u2] h (blV l c) := by
  refine RCall.of hm cF_precedence_Build (by simp [g_precedence_Build]) fun hw h' hl => ?_
  simp only [F_precedence_Build, g_precedence_Build, go_sem, ↓tq_n, ↓tq_e, ↓tq_r, ↓bq_n, ↓bq_e, ↓bq_r, ↓rq_n, ↓rq_r, ↓rq_e]
  refine CallG.mk (r_precedence_gather nl l tl n2 c u2 _) ?_
  by_cases c1 : gaE l c = 0
  case neg =>
    rw [gaV_no c1]
    simp only [c1, F_precedence_Build, g_precedence_Build, go_sem, ↓tq_n, ↓tq_e, ↓tq_r, ↓bq_n, ↓bq_e, ↓bq_r, ↓rq_n, ↓rq_r, ↓rq_e]
    exact ret_ok (by unfold blV; rw [if_neg c1])
  rw [gaV_yes c1]
  have g4 := (ga_ok c1).2.2.2.1
  simp only [F_precedence_Build, g_precedence_Build, go_sem, ↓tq_n, ↓tq_e, ↓tq_r, ↓bq_n, ↓bq_e, ↓bq_r, ↓rq_n, ↓rq_r, ↓rq_e]
  refine CallG.mk (r_precedence_evidence_arcs nl l tl (pcs l c) (by omega) _) ?_
  simp only [F_precedence_Build, g_precedence_Build, go_sem, ↓tq_n, ↓tq_e, ↓tq_r, ↓bq_n, ↓bq_e, ↓bq_r, ↓rq_n, ↓rq_r, ↓rq_e]
  exact ret_ok (by unfold blV; rw [if_pos c1])
/-- The arcs are a digraph. -/
theorem dg_arcL {l : List Spm} {c : List (Int × Int)} (h : gaE l c = 0) : Dg l.length (arcL (pcs l c)) := by
  obtain ⟨g1, g2, g3, g4, g5, g6, g7⟩ := ga_ok h
  refine ⟨by omega, by omega, fun i hi => ⟨?_, fun h0 => ?_⟩⟩
  · obtain ⟨p, hp, e⟩ := mem_arcL.1 (mem_getD (d := (0, 0)) hi)
    rw [← e]
    have hr := g3 p hp
    refine ⟨hr.1.1, hr.1.2, hr.2.1, hr.2.2, ?_⟩
    simp only
    rcases mem_pcs.1 hp with ⟨s, hs, a, k, h1, h2, h3, rfl⟩ | ⟨q, hq, rfl⟩
    · simp only
      intro hh
      have : a = k := by omega
      subst this
      unfold bfS at h3
      split at h3 <;> simp at h3
    · exact (g7 q hq).2
  · have h1 := List.pairwise_iff_getElem.1 (arcL_asc (pcs l c)) (i - 1) i (by omega) hi (by omega)
    have e1 : (arcL (pcs l c)).getD i (0, 0) = (arcL (pcs l c))[i] := by simp [List.getD, hi]
    have e2 : (arcL (pcs l c)).getD (i - 1) (0, 0) = (arcL (pcs l c))[i - 1] := by simp [List.getD, show i - 1 < (arcL (pcs l c)).length by omega]
    rw [e1, e2]
    exact h1
/-- Whether the evidence agrees. -/
def acB (l : List Spm) (c : List (Int × Int)) : Bool := acI (posR l.length (arcL (pcs l c))) l.length
def csV (l : List Spm) (c : List (Int × Int)) : AV := .tup [.bool (decide (gaE l c = 0) && acB l c), I (gaE l c)]
theorem r_precedence_Consistent (nl : Bool) (l : List Spm) (tl : Tail) (n2 : Bool) (c : List (Int × Int)) (u2 : Tail) (h : AH) : RCall Tryz.prog n_precedence_Consistent [.sl nl l.length (sms l) tl, .sl n2 c.length (prs c) u2] h (csV l c) := by
  refine RCall.of hm cF_precedence_Consistent (by simp [g_precedence_Consistent]) fun hw h' hl => ?_
  simp only [F_precedence_Consistent, g_precedence_Consistent, go_sem, ↓tq_n, ↓tq_e, ↓tq_r, ↓bq_n, ↓bq_e, ↓bq_r, ↓rq_n, ↓rq_r, ↓rq_e]
  refine CallG.mk (r_precedence_Build nl l tl n2 c u2 _) ?_
  by_cases c1 : gaE l c = 0
  case neg =>
    have e1 : blV l c = .tup [.sl true 0 [] .full, I (gaE l c)] := by unfold blV; rw [if_neg c1]
    rw [e1]
    simp only [c1, F_precedence_Consistent, g_precedence_Consistent, go_sem, ↓tq_n, ↓tq_e, ↓tq_r, ↓bq_n, ↓bq_e, ↓bq_r, ↓rq_n, ↓rq_r, ↓rq_e]
    exact ret_ok (by unfold csV; rw [decide_eq_false c1]; rfl)
  have e1 : blV l c = .tup [gl (prs (arcL (pcs l c))) (arcL (pcs l c)).length .unk, I 0] := by unfold blV; rw [if_pos c1]
  have g4 := (ga_ok c1).2.2.2.1
  have g5 := arcL_len (pcs l c)
  rw [e1]
  simp only [F_precedence_Consistent, g_precedence_Consistent, go_sem, ↓tq_n, ↓tq_e, ↓tq_r, ↓bq_n, ↓bq_e, ↓bq_r, ↓rq_n, ↓rq_r, ↓rq_e]
  refine CallG.mk (r_poset_Acyclic l.length (decide ((arcL (pcs l c)).length = 0)) (arcL (pcs l c)) .unk (by omega) _) ?_
  simp only [F_precedence_Consistent, g_precedence_Consistent, go_sem, ↓tq_n, ↓tq_e, ↓tq_r, ↓bq_n, ↓bq_e, ↓bq_r, ↓rq_n, ↓rq_r, ↓rq_e]
  exact ret_ok (by unfold csV; rw [c1, decide_eq_true (dg_arcL c1)]; rfl)
end Go.Proofs.YtidmekdkfiljjaaGreat.P
namespace Go.Proofs.YtidmekdkfiljjaaGreat
open Go Go.Abs
set_option linter.unusedSimpArgs false
set_option linter.unusedVariables false
set_option maxRecDepth 20000

theorem aci_cy (n : Nat) (a : List (Int × Int)) : P.acI (P.posR n a) n = !cyB n a := by
  have h : ∀ (r : List Nat) k, P.acI r k = !(List.range k).any fun i => bt r i i := fun r k => by
    induction k with
    | zero => rfl
    | succ k ih => rw [List.range_succ, List.any_append]; simp only [P.acI, ih]; simp
  exact h _ n
theorem cy_girth {n : Nat} {a : List (Int × Int)} (he : Ev n a) : cyB n a = true ↔ ∃ ks u, ks ≠ [] ∧ IW a u ks u := by
  have h := cy_iff he (ix_whole a.length)
  rw [sub_all] at h
  rw [h]
  exact ⟨fun ⟨ks, u, h1, h2, _⟩ => ⟨ks, u, h1, h2⟩, fun ⟨ks, u, h1, h2⟩ => ⟨ks, u, h1, h2, fun k hk => mem_nats.2 (List.mem_range.2 (iw_lt h2 k hk))⟩⟩
/-- Both find a cycle, or none; and of the same length. -/
theorem sm_cases {n : Nat} {a : List (Int × Int)} (he : Ev n a) : (cyB n a = false ∧ smV n a = .tup [.sl true 0 [] .full, I 7] ∧ cyV n a = .tup [.sl true 0 [] .full, I 7]) ∨ ∃ (g : Nat) (s c : List Int), cyB n a = true ∧ smV n a = .tup [.sl false g (i64s s) .unk, I 0] ∧ cyV n a = .tup [gl (i64s c) g .unk, I 0] := by
  have hf : ∀ k, k < a.length → fr a k < n := fun k hk => (ev_k he hk).2.1
  cases hc : cyB n a with
  | false =>
    have hno : ∀ ks u, ks ≠ [] → ¬ IW a u ks u := fun ks u h1 h2 => by rw [(cy_girth he).2 ⟨ks, u, h1, h2⟩] at hc; cases hc
    refine .inl ⟨rfl, ?_, ?_⟩
    · cases hs : smF a n with
      | none => simp [smV, he, hs]
      | some s =>
        obtain ⟨ks, u, h1, h2, _⟩ := (cy_iff he (smF_fst he hs).1.1).1 (smF_fst he hs).1.2
        exact absurd h2 (hno ks u h1)
    · rcases cyS_gi hf with ⟨z1, _⟩ | ⟨v, g, _, _, _, z4⟩
      · unfold cyV; rw [if_pos (by omega)]
      · obtain ⟨hg, ⟨ks, u, h2, h3⟩, _⟩ := z4
        exact absurd h2 (hno ks u (fun hh => by subst hh; simp at h3; omega))
  | true =>
    obtain ⟨ks, u, h1, h2⟩ := (cy_girth he).1 hc
    obtain ⟨g, hg⟩ := gi_of h2 h1
    refine .inr ⟨g, ?_⟩
    cases hs : smF a n with
    | none =>
      have := smF_none he hs _ (⟨ix_whole a.length, by rw [sub_all]; exact hc⟩ : Good n a (nats (List.range a.length)))
      exact this.elim
    | some s =>
      have hfst := smF_fst he hs
      have hl : s.length = g := by
        obtain ⟨qs, v, q1, q2⟩ := hg.2.1
        have hne : qs ≠ [] := fun hh => by subst hh; have := hg.1; simp at q2; omega
        have h3 := good_of he q1 hne (nodup_of_map (gi_nodup hg q1 q2))
        have h4 := (good_ge he hg hfst.1).1
        have h5 := hfst.2 _ h3
        rw [srtn_len] at h5
        omega
      rcases cyS_gi hf with ⟨_, z2⟩ | ⟨v, g', _, z2, _, z4⟩
      · exact absurd h2 (z2 ks u h1)
      · have hgg : g' = g := by
          obtain ⟨qs, v', q1, q2⟩ := hg.2.1
          obtain ⟨qs', v'', q1', q2'⟩ := z4.2.1
          have h3 := hg.2.2 qs' v'' (fun hh => by subst hh; have := z4.1; simp at q2'; omega) q1'
          have h4 := z4.2.2 qs v' (fun hh => by subst hh; have := hg.1; simp at q2; omega) q1
          omega
        subst hgg
        refine ⟨s, nats (v :: cyP n a v (g' - 1) v), rfl, by rw [← hl]; exact smV_some he hs, ?_⟩
        unfold cyV
        rw [z2]
        simp only [Int.toNat_natCast]
        rw [if_neg (by omega)]
/-- Each of the cheapest pieces is to blame. -/
theorem least_bm {n : Nat} {a : List (Int × Int)} {w : List Int} (hok : Okc n a w) {q : List Nat} (hq : Opt n a w q) {k : Nat} (hk : k ∈ Bl a q) : bmP n a k = true := by
  have he := hok.2.2.1
  have hka := (mem_Bl.1 hk).1
  obtain ⟨i, hi, hie⟩ := List.getElem_of_mem (mem_nats.2 hk)
  have h1 := less_rp hok hq hi
  have hix := ix_erase (Bl_ix a q) i
  have h2 : cyB n (sub a (nats (rsK ((nats (Bl a q)).eraseIdx i) a.length))) = true := by
    cases hc : cyB n (sub a (nats (rsK ((nats (Bl a q)).eraseIdx i) a.length))) with
    | true => rfl
    | false => rw [rpB_iff.2 ⟨⟨hok, hix⟩, hc⟩] at h1; cases h1
  have h0 := (rpB_iff.1 (bl_rp hok hq.1 hq.2.1)).2
  obtain ⟨ks, u, c1, c2, c3⟩ := (cy_iff he (rsK_ix _ _)).1 h2
  have hkk : k ∈ ks := by
    refine Classical.byContradiction fun hn => ?_
    have : cyB n (sub a (nats (rsK (nats (Bl a q)) a.length))) = true := (cy_iff he (rsK_ix _ _)).2 ⟨ks, u, c1, c2, fun j hj => mem_nats.2 (mem_rsK.2 ⟨iw_lt c2 j hj, fun hm2 => ?_⟩)⟩
    · rw [h0] at this; cases this
    · have h3 := (mem_rsK.1 (mem_nats.1 (c3 j hj))).2
      refine h3 ?_
      obtain ⟨x, hx, hxe⟩ := List.getElem_of_mem hm2
      rw [List.mem_eraseIdx_iff_getElem]
      refine ⟨x, hx, fun hh => ?_, hxe⟩
      subst hh
      rw [hie] at hxe
      have : k = j := by omega
      subst this
      exact hn hj
  obtain ⟨qs, r1, r2⟩ := iw_rot c2 hkk
  have h5 := bl_bt he hka
  rw [sub_all] at h5
  show bt (wr n (nxt n a a.length) n) (tt a k) (fr a k) = true
  rw [h5]
  refine (blP_iff he hka).2 ⟨qs, fun hh => ?_, r1⟩
  subst hh
  exact (ev_k he hka).2.2.2 (Eq.symm r1)
theorem mem_bmF {n : Nat} {a : List (Int × Int)} {i k : Nat} : k ∈ bmF n a i ↔ k < i ∧ bmP n a k = true := by
  unfold bmF; rw [List.mem_filter, List.mem_range]
/-- A part of a digraph is one. -/
theorem dg_lt {n : Int} {a : List (Int × Int)} (hd : P.Dg n a) : ∀ j, j < a.length → ∀ i, i < j → (a.getD i (0, 0)).1 < (a.getD j (0, 0)).1 ∨ (a.getD i (0, 0)).1 = (a.getD j (0, 0)).1 ∧ (a.getD i (0, 0)).2 < (a.getD j (0, 0)).2 := by
  intro j
  induction j with
  | zero => intro _ i hi; exact absurd hi (Nat.not_lt_zero _)
  | succ j ih =>
    intro hj i hi
    have h1 := (hd.2.2 (j + 1) hj).2 (Nat.succ_pos _)
    rw [Nat.add_sub_cancel] at h1
    rcases lt_succ_cases hi with h2 | rfl
    · have := ih (by omega) i h2
      omega
    · exact h1
theorem dg_sub {n : Nat} {a : List (Int × Int)} (hd : P.Dg n a) {s : List Int} (hs : Ix a.length s) : P.Dg n (sub a s) := by
  refine ⟨hd.1, hd.2.1, fun i hi => ?_⟩
  rw [sub_len] at hi
  have h1 := ix_at hs hi
  unfold P.DgA
  rw [sub_get hi]
  refine ⟨(hd.2.2 _ h1.2.2).1, fun h0 => ?_⟩
  have hi' : i - 1 < s.length := by omega
  have h2 := ix_at hs hi'
  rw [sub_get hi']
  have h3 := (List.pairwise_iff_getElem.1 (ix_pw.1 hs).2) (i - 1) i hi' hi (by omega)
  have e1 : s.getD i 0 = s[i] := by simp [List.getD, hi]
  have e2 : s.getD (i - 1) 0 = s[i - 1] := by simp [List.getD, hi']
  exact dg_lt hd _ h1.2.2 _ (by omega)
theorem fwd_bB {a : List (Int × Int)} {o : List Nat} (hn : o.Nodup) (hf : Fwd a o) {i : Nat} (hi : i < a.length) (ht : tt a i ∈ o) : bB a o i = false := by
  refine Bool.eq_false_iff.2 fun hb => ?_
  obtain ⟨p, t, e, hp⟩ := hf i hi ht
  unfold bB at hb
  obtain ⟨k, h1, h2⟩ := List.any_eq_true.1 hb
  rw [Bool.and_eq_true, decide_eq_true_eq, decide_eq_true_eq] at h2
  have hk := List.mem_range.1 h1
  obtain ⟨x, hx, hxe⟩ := List.getElem_of_mem hp
  have hpl : p.length < o.length := by rw [e]; simp
  have hox : o[x]'(by omega) = fr a i := by
    have : o[x]'(by omega) = p[x] := by simp only [e]; rw [List.getElem_append_left hx]
    rw [this, hxe]
  have hok : o[k] = fr a i := by rw [← h2.1]; simp [List.getD, hk]
  have hkx : k = x := by
    rcases Nat.lt_trichotomy k x with h3 | h3 | h3
    · exact absurd (hok.trans hox.symm) ((List.pairwise_iff_getElem.1 hn) k x hk (by omega) h3)
    · exact h3
    · exact absurd (hox.trans hok.symm) ((List.pairwise_iff_getElem.1 hn) x k (by omega) hk h3)
  subst hkx
  obtain ⟨j, hj, hje⟩ := List.mem_take_iff_getElem.1 h2.2
  have hot : o[p.length] = tt a i := by simp only [e]; simp
  exact absurd (hje.trans hot.symm) ((List.pairwise_iff_getElem.1 hn) j p.length (by omega) hpl (by omega))
theorem sub_ft {a : List (Int × Int)} {s : List Int} {i : Nat} (h : i < s.length) : fr (sub a s) i = fr a (s.getD i 0).toNat ∧ tt (sub a s) i = tt a (s.getD i 0).toNat := by
  unfold fr tt; rw [sub_get h]; exact ⟨rfl, rfl⟩
/-- What is left has an order, and its backward pieces are among those given up. -/
theorem rest_order {n : Nat} {a : List (Int × Int)} {w : List Int} (hok : Okc n a w) {q : List Nat} (hq : Opt n a w q) : ∃ o, orF n (sub a (nats (rsK (nats (Bl a q)) a.length))) n [] = some o ∧ Pre n o ∧ o.length = n ∧ bc a w o = tot n a w := by
  have he := hok.2.2.1
  have hix := rsK_ix (nats (Bl a q)) a.length
  have hbq : ∀ i, i < (sub a (nats (rsK (nats (Bl a q)) a.length))).length → bB (sub a (nats (rsK (nats (Bl a q)) a.length))) q i = false := fun i hi => by
    rw [sub_len] at hi
    obtain ⟨e1, e2⟩ := sub_ft (a := a) hi
    obtain ⟨k, hke, hk⟩ := of_nats (mem_getD (d := 0) hi)
    have h1 := mem_rsK.1 hk
    rw [hke, Int.toNat_natCast] at e1 e2
    have h2 : bB (sub a (nats (rsK (nats (Bl a q)) a.length))) q i = bB a q k := by unfold bB; rw [e1, e2]
    rw [h2]
    exact Bool.eq_false_iff.2 fun h3 => h1.2 (mem_nats.2 (mem_Bl.2 ⟨h1.1, h3⟩))
  have hev := sub_ev he hix
  obtain ⟨o, o1, o2, o3, o4⟩ := orF_spec hq.1 hq.2.1 hbq (fun i hi => (ev_k hev hi).2.1) (fun i hi => (ev_k hev hi).2.2.2) n [] ⟨List.nodup_nil, by simp⟩ (by simp) (fun i _ h => by simp at h)
  refine ⟨o, o1, o2, o3, ?_⟩
  have h1 := (tot_min (n := n) (okc_w1 hok).ok).2.1 o o2 o3
  have h2 := sumK_sub (w := w) (P := bB a o) (Q := bB a q) (k := a.length) (okc_w1 hok).ok (fun i hi hb => by
    cases hb2 : bB a q i with
    | true => rfl
    | false =>
      have hm : i ∈ rsK (nats (Bl a q)) a.length := mem_rsK.2 ⟨hi, fun hm => by rw [(mem_Bl.1 (mem_nats.1 hm)).2] at hb2; cases hb2⟩
      obtain ⟨j, hj, hje⟩ := List.getElem_of_mem (mem_nats.2 hm)
      obtain ⟨e1, e2⟩ := sub_ft (a := a) hj
      have e3 : (nats (rsK (nats (Bl a q)) a.length)).getD j 0 = (i : Int) := by rw [← hje]; simp [List.getD, hj]
      rw [e3, Int.toNat_natCast] at e1 e2
      have h3 := fwd_bB o2.1 o4 (i := j) (by rw [sub_len]; exact hj) (by rw [e2]; exact full_mem o2 o3 (ev_k he hi).2.2.1)
      have h4 : bB (sub a (nats (rsK (nats (Bl a q)) a.length))) o j = bB a o i := by unfold bB; rw [e1, e2]
      rw [h4, hb] at h3
      cases h3)
  have h3 : bc a w o = sumK w (bB a o) a.length := rfl
  have h4 : bc a w q = sumK w (bB a q) a.length := rfl
  have h5 := hq.2.2
  omega
end Go.Proofs.YtidmekdkfiljjaaGreat
namespace Go.Proofs.YtidmekdkfiljjaaGreat
open Go Go.Abs
set_option maxRecDepth 100000
abbrev n_coinagetop_WholeContradiction : Nat := 3
def g_coinagetop_WholeContradiction : Cfg := ⟨278, [0, 1, 2, 6, 7, 8, 9, 10, 11, 12, 13, 14, 15, 16, 17, 18, 19, 20, 21, 22, 23, 24, 25, 26, 27, 28, 29, 30, 31, 32, 33, 34, 46, 60, 74, 83, 206, 220, 224, 233, 237, 243], [], [], [], [], [], []⟩
def F_coinagetop_WholeContradiction : CFn := ⟨(.seq (.reg [⟨(.some 6), (.mv (.c (.bool false))), .none, 0⟩]) (.seq (.seq (.reg [⟨(.some 35), (.call 4 []), .none, 0⟩, ⟨(.some 36), (.un .not (.t 35)), .none, 0⟩, ⟨(.some 37), (.mv (.t 36)), .none, 0⟩, ⟨(.some 38), (.mv (.t 0)), (.some (37, false)), 0⟩, ⟨(.some 39), (.len (.t 38)), (.some (37, false)), 0⟩, ⟨(.some 40), (.bin .gtr (.t 39) (.c (.int .i64 7))), (.some (37, false)), 0⟩, ⟨(.some 41), (.pick (.t 37) (.c (.bool true)) (.t 40)), .none, 0⟩, ⟨(.some 42), (.mv (.t 41)), .none, 0⟩, ⟨(.some 43), (.mv (.t 1)), (.some (42, false)), 0⟩, ⟨(.some 44), (.len (.t 43)), (.some (42, false)), 0⟩, ⟨(.some 45), (.bin .gtr (.t 44) (.c (.int .i64 6))), (.some (42, false)), 0⟩, ⟨(.some 46), (.pick (.t 42) (.c (.bool true)) (.t 45)), .none, 0⟩]) (.cond (.t 46) (.seq (.reg [⟨(.some 47), (.call 4 []), .none, 0⟩, ⟨(.some 6), (.mv (.t 47)), .none, 0⟩]) .ret) .skip)) (.seq (.reg [⟨(.some 49), (.mv (.t 0)), .none, 0⟩, ⟨(.some 50), (.mv (.t 1)), .none, 0⟩, ⟨(.some 51), (.call 5 [(.t 49), (.t 50)]), .none, 0⟩, ⟨(.some 48), (.mv (.t 51)), .none, 0⟩, ⟨(.some 52), (.extract (.t 48) 0), .none, 0⟩, ⟨(.some 53), (.extract (.t 48) 1), .none, 0⟩, ⟨(.some 7), (.mv (.t 52)), .none, 0⟩, ⟨(.some 8), (.mv (.t 53)), .none, 0⟩]) (.seq (.seq (.reg [⟨(.some 54), (.mv (.t 8)), .none, 0⟩, ⟨(.some 55), (.bin .neq (.t 54) (.c (.int .i64 0))), .none, 0⟩, ⟨(.some 56), (.mv (.t 55)), .none, 0⟩, ⟨(.some 57), (.mv (.t 7)), (.some (56, false)), 0⟩, ⟨(.some 58), (.len (.t 57)), (.some (56, false)), 0⟩, ⟨(.some 59), (.bin .gtr (.t 58) (.c (.int .i64 24))), (.some (56, false)), 0⟩, ⟨(.some 60), (.pick (.t 56) (.c (.bool true)) (.t 59)), .none, 0⟩]) (.cond (.t 60) (.seq (.reg [⟨(.some 61), (.mv (.t 8)), .none, 0⟩, ⟨(.some 62), (.bin .eql (.t 61) (.c (.int .i64 0))), .none, 0⟩, ⟨(.some 63), (.mv (.t 62)), .none, 0⟩, ⟨(.some 64), (.mv (.t 7)), (.some (63, false)), 0⟩, ⟨(.some 65), (.len (.t 64)), (.some (63, false)), 0⟩, ⟨(.some 66), (.bin .eql (.t 65) (.c (.int .i64 0))), (.some (63, false)), 0⟩, ⟨(.some 67), (.pick (.t 63) (.c (.bool true)) (.t 66)), .none, 0⟩, ⟨(.some 6), (.mv (.t 67)), .none, 0⟩]) .ret) .skip)) (.seq (.reg [⟨(.some 68), (.mv (.t 7)), .none, 0⟩, ⟨(.some 69), (.len (.t 68)), .none, 0⟩, ⟨(.some 70), (.makeSlice 1 8 [(.int .i64 0)] (.t 69) (.t 69)), .none, 1⟩, ⟨(.some 9), (.mv (.t 70)), .none, 0⟩]) (.seq (.seq (.reg [⟨(.some 10), (.mv (.c (.int .i64 0))), .none, 0⟩]) (.block 0 (.loop (.seq (.seq (.reg [⟨(.some 71), (.mv (.t 10)), .none, 0⟩, ⟨(.some 72), (.mv (.t 7)), .none, 0⟩, ⟨(.some 73), (.len (.t 72)), .none, 0⟩, ⟨(.some 74), (.bin .lss (.t 71) (.t 73)), .none, 0⟩]) (.cond (.t 74) .skip (.exit 0))) (.seq (.block 1 (.seq (.reg [⟨(.some 77), (.mv (.t 9)), .none, 0⟩, ⟨(.some 78), (.mv (.t 10)), .none, 0⟩, ⟨(.some 79), (.indexAddr 1 (.t 77) (.t 78)), .none, 0⟩, ⟨.none, (.store 1 (.t 79) (.c (.int .i64 1))), .none, 2⟩]) (.seq (.reg [⟨(.some 80), (.mv (.t 10)), .none, 0⟩, ⟨(.some 81), (.mv (.t 2)), .none, 0⟩, ⟨(.some 82), (.len (.t 81)), .none, 0⟩, ⟨(.some 83), (.bin .lss (.t 80) (.t 82)), .none, 0⟩]) (.cond (.t 83) (.reg [⟨(.some 84), (.mv (.t 9)), .none, 0⟩, ⟨(.some 85), (.mv (.t 10)), .none, 0⟩, ⟨(.some 86), (.mv (.t 2)), .none, 0⟩, ⟨(.some 87), (.mv (.t 10)), .none, 0⟩, ⟨(.some 88), (.indexAddr 1 (.t 86) (.t 87)), .none, 0⟩, ⟨(.some 89), (.load .none (.t 88)), .none, 0⟩, ⟨(.some 90), (.conv .i64 (.t 89)), .none, 0⟩, ⟨(.some 91), (.bin .rem (.t 90) (.c (.int .i64 9))), .none, 0⟩, ⟨(.some 92), (.bin .add (.c (.int .i64 1)) (.t 91)), .none, 0⟩, ⟨(.some 93), (.indexAddr 1 (.t 84) (.t 85)), .none, 0⟩, ⟨.none, (.store 1 (.t 93) (.t 92)), .none, 2⟩]) .skip)))) (.reg [⟨(.some 75), (.mv (.t 10)), .none, 0⟩, ⟨(.some 76), (.bin .add (.t 75) (.c (.int .i64 1))), .none, 0⟩, ⟨(.some 10), (.mv (.t 76)), .none, 0⟩])))))) (.seq (.reg [⟨(.some 95), (.mv (.t 0)), .none, 0⟩, ⟨(.some 96), (.mv (.t 1)), .none, 0⟩, ⟨(.some 97), (.call 6 [(.t 95), (.t 96)]), .none, 0⟩, ⟨(.some 94), (.mv (.t 97)), .none, 0⟩, ⟨(.some 98), (.extract (.t 94) 0), .none, 0⟩, ⟨(.some 99), (.extract (.t 94) 1), .none, 0⟩, ⟨(.some 11), (.mv (.t 98)), .none, 0⟩, ⟨(.some 12), (.mv (.t 99)), .none, 0⟩]) (.seq (.reg [⟨(.some 101), (.mv (.t 0)), .none, 0⟩, ⟨(.some 102), (.len (.t 101)), .none, 0⟩, ⟨(.some 103), (.mv (.t 7)), .none, 0⟩, ⟨(.some 104), (.call 7 [(.t 102), (.t 103)]), .none, 0⟩, ⟨(.some 100), (.mv (.t 104)), .none, 0⟩, ⟨(.some 105), (.extract (.t 100) 0), .none, 0⟩, ⟨(.some 106), (.extract (.t 100) 1), .none, 0⟩, ⟨(.some 13), (.mv (.t 105)), .none, 0⟩, ⟨(.some 14), (.mv (.t 106)), .none, 0⟩]) (.seq (.reg [⟨(.some 108), (.mv (.t 0)), .none, 0⟩, ⟨(.some 109), (.len (.t 108)), .none, 0⟩, ⟨(.some 110), (.mv (.t 7)), .none, 0⟩, ⟨(.some 111), (.call 8 [(.t 109), (.t 110)]), .none, 0⟩, ⟨(.some 107), (.mv (.t 111)), .none, 0⟩, ⟨(.some 112), (.extract (.t 107) 0), .none, 0⟩, ⟨(.some 113), (.extract (.t 107) 1), .none, 0⟩, ⟨(.some 15), (.mv (.t 112)), .none, 0⟩, ⟨(.some 16), (.mv (.t 113)), .none, 0⟩]) (.seq (.reg [⟨(.some 115), (.mv (.t 0)), .none, 0⟩, ⟨(.some 116), (.len (.t 115)), .none, 0⟩, ⟨(.some 117), (.mv (.t 7)), .none, 0⟩, ⟨(.some 118), (.mv (.t 9)), .none, 0⟩, ⟨(.some 119), (.call 9 [(.t 116), (.t 117), (.t 118)]), .none, 0⟩, ⟨(.some 114), (.mv (.t 119)), .none, 0⟩, ⟨(.some 120), (.extract (.t 114) 0), .none, 0⟩, ⟨(.some 121), (.extract (.t 114) 1), .none, 0⟩, ⟨(.some 122), (.extract (.t 114) 2), .none, 0⟩, ⟨(.some 17), (.mv (.t 120)), .none, 0⟩, ⟨(.some 18), (.mv (.t 121)), .none, 0⟩, ⟨(.some 19), (.mv (.t 122)), .none, 0⟩]) (.seq (.reg [⟨(.some 124), (.mv (.t 0)), .none, 0⟩, ⟨(.some 125), (.len (.t 124)), .none, 0⟩, ⟨(.some 126), (.mv (.t 7)), .none, 0⟩, ⟨(.some 127), (.mv (.t 9)), .none, 0⟩, ⟨(.some 128), (.call 10 [(.t 125), (.t 126), (.t 127)]), .none, 0⟩, ⟨(.some 123), (.mv (.t 128)), .none, 0⟩, ⟨(.some 129), (.extract (.t 123) 0), .none, 0⟩, ⟨(.some 130), (.extract (.t 123) 1), .none, 0⟩, ⟨(.some 131), (.extract (.t 123) 2), .none, 0⟩, ⟨(.some 20), (.mv (.t 129)), .none, 0⟩, ⟨(.some 21), (.mv (.t 130)), .none, 0⟩, ⟨(.some 22), (.mv (.t 131)), .none, 0⟩]) (.seq (.reg [⟨(.some 133), (.mv (.t 0)), .none, 0⟩, ⟨(.some 134), (.len (.t 133)), .none, 0⟩, ⟨(.some 135), (.mv (.t 7)), .none, 0⟩, ⟨(.some 136), (.mv (.t 9)), .none, 0⟩, ⟨(.some 137), (.call 11 [(.t 134), (.t 135), (.t 136)]), .none, 0⟩, ⟨(.some 132), (.mv (.t 137)), .none, 0⟩, ⟨(.some 138), (.extract (.t 132) 0), .none, 0⟩, ⟨(.some 139), (.extract (.t 132) 1), .none, 0⟩, ⟨(.some 140), (.extract (.t 132) 2), .none, 0⟩, ⟨(.some 23), (.mv (.t 138)), .none, 0⟩, ⟨(.some 24), (.mv (.t 139)), .none, 0⟩, ⟨(.some 25), (.mv (.t 140)), .none, 0⟩]) (.seq (.reg [⟨(.some 142), (.mv (.t 0)), .none, 0⟩, ⟨(.some 143), (.len (.t 142)), .none, 0⟩, ⟨(.some 144), (.mv (.t 7)), .none, 0⟩, ⟨(.some 145), (.call 12 [(.t 143), (.t 144)]), .none, 0⟩, ⟨(.some 141), (.mv (.t 145)), .none, 0⟩, ⟨(.some 146), (.extract (.t 141) 0), .none, 0⟩, ⟨(.some 147), (.extract (.t 141) 1), .none, 0⟩, ⟨(.some 26), (.mv (.t 146)), .none, 0⟩, ⟨(.some 27), (.mv (.t 147)), .none, 0⟩]) (.seq (.seq (.reg [⟨(.some 148), (.mv (.t 12)), .none, 0⟩, ⟨(.some 149), (.bin .neq (.t 148) (.c (.int .i64 0))), .none, 0⟩, ⟨(.some 150), (.mv (.t 149)), .none, 0⟩, ⟨(.some 151), (.mv (.t 19)), (.some (150, false)), 0⟩, ⟨(.some 152), (.bin .neq (.t 151) (.c (.int .i64 0))), (.some (150, false)), 0⟩, ⟨(.some 153), (.pick (.t 150) (.c (.bool true)) (.t 152)), .none, 0⟩, ⟨(.some 154), (.mv (.t 153)), .none, 0⟩, ⟨(.some 155), (.mv (.t 22)), (.some (154, false)), 0⟩, ⟨(.some 156), (.bin .neq (.t 155) (.c (.int .i64 0))), (.some (154, false)), 0⟩, ⟨(.some 157), (.pick (.t 154) (.c (.bool true)) (.t 156)), .none, 0⟩, ⟨(.some 158), (.mv (.t 157)), .none, 0⟩, ⟨(.some 159), (.mv (.t 25)), (.some (158, false)), 0⟩, ⟨(.some 160), (.bin .neq (.t 159) (.c (.int .i64 0))), (.some (158, false)), 0⟩, ⟨(.some 161), (.pick (.t 158) (.c (.bool true)) (.t 160)), .none, 0⟩, ⟨(.some 162), (.mv (.t 161)), .none, 0⟩, ⟨(.some 163), (.mv (.t 27)), (.some (162, false)), 0⟩, ⟨(.some 164), (.bin .neq (.t 163) (.c (.int .i64 0))), (.some (162, false)), 0⟩, ⟨(.some 165), (.pick (.t 162) (.c (.bool true)) (.t 164)), .none, 0⟩, ⟨(.some 166), (.mv (.t 165)), .none, 0⟩, ⟨(.some 167), (.mv (.t 11)), (.some (166, false)), 0⟩, ⟨(.some 168), (.mv (.t 14)), (.some (166, false)), 0⟩, ⟨(.some 169), (.bin .eql (.t 168) (.c (.int .i64 7))), (.some (166, false)), 0⟩, ⟨(.some 170), (.eqv .bool true 0 (.t 167) (.t 169)), (.some (166, false)), 0⟩, ⟨(.some 171), (.pick (.t 166) (.c (.bool true)) (.t 170)), .none, 0⟩, ⟨(.some 172), (.mv (.t 171)), .none, 0⟩, ⟨(.some 173), (.mv (.t 14)), (.some (172, false)), 0⟩, ⟨(.some 174), (.mv (.t 16)), (.some (172, false)), 0⟩, ⟨(.some 175), (.bin .neq (.t 173) (.t 174)), (.some (172, false)), 0⟩, ⟨(.some 176), (.pick (.t 172) (.c (.bool true)) (.t 175)), .none, 0⟩, ⟨(.some 177), (.mv (.t 176)), .none, 0⟩, ⟨(.some 178), (.mv (.t 13)), (.some (177, false)), 0⟩, ⟨(.some 179), (.len (.t 178)), (.some (177, false)), 0⟩, ⟨(.some 180), (.mv (.t 15)), (.some (177, false)), 0⟩, ⟨(.some 181), (.len (.t 180)), (.some (177, false)), 0⟩, ⟨(.some 182), (.bin .neq (.t 179) (.t 181)), (.some (177, false)), 0⟩, ⟨(.some 183), (.pick (.t 177) (.c (.bool true)) (.t 182)), .none, 0⟩, ⟨(.some 184), (.mv (.t 183)), .none, 0⟩, ⟨(.some 185), (.mv (.t 21)), (.some (184, false)), 0⟩, ⟨(.some 186), (.mv (.t 18)), (.some (184, false)), 0⟩, ⟨(.some 187), (.bin .neq (.t 185) (.t 186)), (.some (184, false)), 0⟩, ⟨(.some 188), (.pick (.t 184) (.c (.bool true)) (.t 187)), .none, 0⟩, ⟨(.some 189), (.mv (.t 188)), .none, 0⟩, ⟨(.some 190), (.mv (.t 24)), (.some (189, false)), 0⟩, ⟨(.some 191), (.mv (.t 18)), (.some (189, false)), 0⟩, ⟨(.some 192), (.bin .gtr (.t 190) (.t 191)), (.some (189, false)), 0⟩, ⟨(.some 193), (.pick (.t 189) (.c (.bool true)) (.t 192)), .none, 0⟩, ⟨(.some 194), (.mv (.t 193)), .none, 0⟩, ⟨(.some 195), (.mv (.t 11)), (.some (194, false)), 0⟩, ⟨(.some 196), (.mv (.t 18)), (.some (194, false)), 0⟩, ⟨(.some 197), (.bin .eql (.t 196) (.c (.int .i64 0))), (.some (194, false)), 0⟩, ⟨(.some 198), (.eqv .bool true 0 (.t 195) (.t 197)), (.some (194, false)), 0⟩, ⟨(.some 199), (.pick (.t 194) (.c (.bool true)) (.t 198)), .none, 0⟩, ⟨(.some 200), (.mv (.t 199)), .none, 0⟩, ⟨(.some 201), (.mv (.t 11)), (.some (200, false)), 0⟩, ⟨(.some 202), (.mv (.t 23)), (.some (200, false)), 0⟩, ⟨(.some 203), (.len (.t 202)), (.some (200, false)), 0⟩, ⟨(.some 204), (.bin .eql (.t 203) (.c (.int .i64 0))), (.some (200, false)), 0⟩, ⟨(.some 205), (.eqv .bool true 0 (.t 201) (.t 204)), (.some (200, false)), 0⟩, ⟨(.some 206), (.pick (.t 200) (.c (.bool true)) (.t 205)), .none, 0⟩]) (.cond (.t 206) (.seq (.reg [⟨(.some 6), (.mv (.c (.bool false))), .none, 0⟩]) .ret) .skip)) (.seq (.seq (.reg [⟨(.some 207), (.mv (.t 0)), .none, 0⟩, ⟨(.some 208), (.len (.t 207)), .none, 0⟩, ⟨(.some 209), (.mv (.t 7)), .none, 0⟩, ⟨(.some 210), (.mv (.t 9)), .none, 0⟩, ⟨(.some 211), (.mv (.t 17)), .none, 0⟩, ⟨(.some 212), (.call 13 [(.t 208), (.t 209), (.t 210), (.t 211)]), .none, 0⟩, ⟨(.some 213), (.un .not (.t 212)), .none, 0⟩, ⟨(.some 214), (.mv (.t 213)), .none, 0⟩, ⟨(.some 215), (.mv (.t 20)), (.some (214, false)), 0⟩, ⟨(.some 216), (.mv (.t 0)), (.some (214, false)), 0⟩, ⟨(.some 217), (.len (.t 216)), (.some (214, false)), 0⟩, ⟨(.some 218), (.call 14 [(.t 215), (.t 217)]), (.some (214, false)), 0⟩, ⟨(.some 219), (.un .not (.t 218)), (.some (214, false)), 0⟩, ⟨(.some 220), (.pick (.t 214) (.c (.bool true)) (.t 219)), .none, 0⟩]) (.cond (.t 220) (.seq (.reg [⟨(.some 6), (.mv (.c (.bool false))), .none, 0⟩]) .ret) .skip)) (.seq (.seq (.reg [⟨(.some 28), (.mv (.c (.int .i64 0))), .none, 0⟩]) (.block 2 (.loop (.seq (.seq (.reg [⟨(.some 221), (.mv (.t 28)), .none, 0⟩, ⟨(.some 222), (.mv (.t 17)), .none, 0⟩, ⟨(.some 223), (.len (.t 222)), .none, 0⟩, ⟨(.some 224), (.bin .lss (.t 221) (.t 223)), .none, 0⟩]) (.cond (.t 224) .skip (.exit 2))) (.seq (.block 3 (.seq (.reg [⟨(.some 227), (.mv (.t 26)), .none, 0⟩, ⟨(.some 228), (.mv (.t 17)), .none, 0⟩, ⟨(.some 229), (.mv (.t 28)), .none, 0⟩, ⟨(.some 230), (.indexAddr 1 (.t 228) (.t 229)), .none, 0⟩, ⟨(.some 231), (.load .none (.t 230)), .none, 0⟩, ⟨(.some 232), (.call 15 [(.t 227), (.t 231)]), .none, 0⟩, ⟨(.some 233), (.un .not (.t 232)), .none, 0⟩]) (.cond (.t 233) (.seq (.reg [⟨(.some 6), (.mv (.c (.bool false))), .none, 0⟩]) .ret) .skip))) (.reg [⟨(.some 225), (.mv (.t 28)), .none, 0⟩, ⟨(.some 226), (.bin .add (.t 225) (.c (.int .i64 1))), .none, 0⟩, ⟨(.some 28), (.mv (.t 226)), .none, 0⟩])))))) (.seq (.reg [⟨(.some 29), (.mv (.c (.sl true 0 [] .full))), .none, 0⟩]) (.seq (.seq (.reg [⟨(.some 30), (.mv (.c (.int .i64 0))), .none, 0⟩]) (.block 4 (.loop (.seq (.seq (.reg [⟨(.some 234), (.mv (.t 30)), .none, 0⟩, ⟨(.some 235), (.mv (.t 7)), .none, 0⟩, ⟨(.some 236), (.len (.t 235)), .none, 0⟩, ⟨(.some 237), (.bin .lss (.t 234) (.t 236)), .none, 0⟩]) (.cond (.t 237) .skip (.exit 4))) (.seq (.block 5 (.seq (.reg [⟨(.some 240), (.mv (.t 17)), .none, 0⟩, ⟨(.some 241), (.mv (.t 30)), .none, 0⟩, ⟨(.some 242), (.call 15 [(.t 240), (.t 241)]), .none, 0⟩, ⟨(.some 243), (.un .not (.t 242)), .none, 0⟩]) (.cond (.t 243) (.reg [⟨(.some 244), (.mv (.t 29)), .none, 0⟩, ⟨(.some 245), (.mv (.t 7)), .none, 0⟩, ⟨(.some 246), (.mv (.t 30)), .none, 0⟩, ⟨(.some 247), (.indexAddr 2 (.t 245) (.t 246)), .none, 0⟩, ⟨(.some 248), (.load (.some 2) (.t 247)), .none, 0⟩, ⟨(.some 249), (.buildSlice 1 2 [(.int .i64 0), (.int .i64 0)] [(0, (2, (.t 248)))]), .none, 0⟩, ⟨(.some 250), (.append 2 16 (.t 244) (.t 249)), .none, 1⟩, ⟨(.some 29), (.mv (.t 250)), .none, 0⟩]) .skip))) (.reg [⟨(.some 238), (.mv (.t 30)), .none, 0⟩, ⟨(.some 239), (.bin .add (.t 238) (.c (.int .i64 1))), .none, 0⟩, ⟨(.some 30), (.mv (.t 239)), .none, 0⟩])))))) (.seq (.reg [⟨(.some 252), (.mv (.t 0)), .none, 0⟩, ⟨(.some 253), (.len (.t 252)), .none, 0⟩, ⟨(.some 254), (.mv (.t 29)), .none, 0⟩, ⟨(.some 255), (.call 16 [(.t 253), (.t 254)]), .none, 0⟩, ⟨(.some 251), (.mv (.t 255)), .none, 0⟩, ⟨(.some 256), (.extract (.t 251) 0), .none, 0⟩, ⟨(.some 257), (.extract (.t 251) 1), .none, 0⟩, ⟨(.some 31), (.mv (.t 256)), .none, 0⟩, ⟨(.some 32), (.mv (.t 257)), .none, 0⟩]) (.seq (.reg [⟨(.some 259), (.mv (.t 0)), .none, 0⟩, ⟨(.some 260), (.len (.t 259)), .none, 0⟩, ⟨(.some 261), (.mv (.t 7)), .none, 0⟩, ⟨(.some 262), (.mv (.t 9)), .none, 0⟩, ⟨(.some 263), (.mv (.t 31)), .none, 0⟩, ⟨(.some 264), (.call 17 [(.t 260), (.t 261), (.t 262), (.t 263)]), .none, 0⟩, ⟨(.some 258), (.mv (.t 264)), .none, 0⟩, ⟨(.some 265), (.extract (.t 258) 0), .none, 0⟩, ⟨(.some 266), (.extract (.t 258) 1), .none, 0⟩, ⟨(.some 33), (.mv (.t 265)), .none, 0⟩, ⟨(.some 34), (.mv (.t 266)), .none, 0⟩]) (.seq (.reg [⟨(.some 267), (.mv (.t 32)), .none, 0⟩, ⟨(.some 268), (.bin .eql (.t 267) (.c (.int .i64 0))), .none, 0⟩, ⟨(.some 269), (.mv (.t 268)), .none, 0⟩, ⟨(.some 270), (.mv (.t 34)), (.some (269, true)), 0⟩, ⟨(.some 271), (.bin .eql (.t 270) (.c (.int .i64 0))), (.some (269, true)), 0⟩, ⟨(.some 272), (.pick (.t 269) (.t 271) (.c (.bool false))), .none, 0⟩, ⟨(.some 273), (.mv (.t 272)), .none, 0⟩, ⟨(.some 274), (.mv (.t 33)), (.some (273, true)), 0⟩, ⟨(.some 275), (.mv (.t 18)), (.some (273, true)), 0⟩, ⟨(.some 276), (.bin .eql (.t 274) (.t 275)), (.some (273, true)), 0⟩, ⟨(.some 277), (.pick (.t 273) (.t 276) (.c (.bool false))), .none, 0⟩, ⟨(.some 6), (.mv (.t 277)), .none, 0⟩]) .ret))))))))))))))))))))), [(.t 6)]⟩
theorem cF_coinagetop_WholeContradiction : cFn Tryz.prog n_coinagetop_WholeContradiction g_coinagetop_WholeContradiction = some F_coinagetop_WholeContradiction := by kernel_rfl
abbrev n_coinagetop_repairAwake : Nat := 4
def g_coinagetop_repairAwake : Cfg := ⟨42, [0, 1, 2, 3, 4, 5, 6], [], [], [], [], [], []⟩
def F_coinagetop_repairAwake : CFn := ⟨(.seq (.reg [⟨(.some 0), (.mv (.c (.bool false))), .none, 0⟩]) (.seq (.reg [⟨(.some 7), (.build [(.int .i64 0), (.int .i64 0)] [(0, (1, (.c (.int .i64 0)))), (1, (1, (.c (.int .i64 1))))]), .none, 0⟩, ⟨(.some 8), (.build [(.int .i64 0), (.int .i64 0)] [(0, (1, (.c (.int .i64 1)))), (1, (1, (.c (.int .i64 0))))]), .none, 0⟩, ⟨(.some 9), (.buildSlice 2 2 [(.int .i64 0), (.int .i64 0)] [(0, (2, (.t 7))), (2, (2, (.t 8)))]), .none, 0⟩, ⟨(.some 1), (.mv (.t 9)), .none, 0⟩]) (.seq (.reg [⟨(.some 11), (.mv (.t 1)), .none, 0⟩, ⟨(.some 12), (.call 7 [(.c (.int .i64 2)), (.t 11)]), .none, 0⟩, ⟨(.some 10), (.mv (.t 12)), .none, 0⟩, ⟨(.some 13), (.extract (.t 10) 0), .none, 0⟩, ⟨(.some 14), (.extract (.t 10) 1), .none, 0⟩, ⟨(.some 2), (.mv (.t 13)), .none, 0⟩, ⟨(.some 3), (.mv (.t 14)), .none, 0⟩]) (.seq (.reg [⟨(.some 16), (.mv (.t 1)), .none, 0⟩, ⟨(.some 17), (.buildSlice 2 1 [(.int .i64 0)] [(0, (1, (.c (.int .i64 3)))), (1, (1, (.c (.int .i64 2))))]), .none, 0⟩, ⟨(.some 18), (.call 9 [(.c (.int .i64 2)), (.t 16), (.t 17)]), .none, 0⟩, ⟨(.some 15), (.mv (.t 18)), .none, 0⟩, ⟨(.some 19), (.extract (.t 15) 0), .none, 0⟩, ⟨(.some 20), (.extract (.t 15) 1), .none, 0⟩, ⟨(.some 21), (.extract (.t 15) 2), .none, 0⟩, ⟨(.some 4), (.mv (.t 19)), .none, 0⟩, ⟨(.some 5), (.mv (.t 20)), .none, 0⟩, ⟨(.some 6), (.mv (.t 21)), .none, 0⟩]) (.seq (.reg [⟨(.some 22), (.mv (.t 2)), .none, 0⟩, ⟨(.some 23), (.buildSlice 2 1 [(.int .i64 0)] [(0, (1, (.c (.int .i64 0)))), (1, (1, (.c (.int .i64 1))))]), .none, 0⟩, ⟨(.some 24), (.call 18 [(.t 22), (.t 23)]), .none, 0⟩, ⟨(.some 25), (.mv (.t 24)), .none, 0⟩, ⟨(.some 26), (.mv (.t 3)), (.some (25, true)), 0⟩, ⟨(.some 27), (.bin .eql (.t 26) (.c (.int .i64 0))), (.some (25, true)), 0⟩, ⟨(.some 28), (.pick (.t 25) (.t 27) (.c (.bool false))), .none, 0⟩, ⟨(.some 29), (.mv (.t 28)), .none, 0⟩, ⟨(.some 30), (.mv (.t 4)), (.some (29, true)), 0⟩, ⟨(.some 31), (.buildSlice 1 1 [(.int .i64 0)] [(0, (1, (.c (.int .i64 1))))]), (.some (29, true)), 0⟩, ⟨(.some 32), (.call 18 [(.t 30), (.t 31)]), (.some (29, true)), 0⟩, ⟨(.some 33), (.pick (.t 29) (.t 32) (.c (.bool false))), .none, 0⟩, ⟨(.some 34), (.mv (.t 33)), .none, 0⟩, ⟨(.some 35), (.mv (.t 5)), (.some (34, true)), 0⟩, ⟨(.some 36), (.bin .eql (.t 35) (.c (.int .i64 2))), (.some (34, true)), 0⟩, ⟨(.some 37), (.pick (.t 34) (.t 36) (.c (.bool false))), .none, 0⟩, ⟨(.some 38), (.mv (.t 37)), .none, 0⟩, ⟨(.some 39), (.mv (.t 6)), (.some (38, true)), 0⟩, ⟨(.some 40), (.bin .eql (.t 39) (.c (.int .i64 0))), (.some (38, true)), 0⟩, ⟨(.some 41), (.pick (.t 38) (.t 40) (.c (.bool false))), .none, 0⟩, ⟨(.some 0), (.mv (.t 41)), .none, 0⟩]) .ret))))), [(.t 0)]⟩
theorem cF_coinagetop_repairAwake : cFn Tryz.prog n_coinagetop_repairAwake g_coinagetop_repairAwake = some F_coinagetop_repairAwake := by kernel_rfl
end Go.Proofs.YtidmekdkfiljjaaGreat
namespace Go.Proofs.YtidmekdkfiljjaaGreat
open Go Go.Abs
set_option linter.unusedSimpArgs false
set_option linter.unusedVariables false
set_option maxRecDepth 20000

theorem good_two {n : Nat} {a : List (Int × Int)} (he : Ev n a) {s : List Int} (h : Good n a s) : 2 ≤ s.length := by
  obtain ⟨g, hg⟩ := good_gi he h
  have h1 := (good_ge he hg h).1
  obtain ⟨ks, u, h2, h3⟩ := hg.2.1
  have h0 := hg.1
  cases ks with
  | nil => simp at h3; omega
  | cons k ks =>
    cases ks with
    | nil =>
      have h4 := h2.2.2
      exact absurd (h2.2.1.trans h4.symm) (ev_k he h2.1).2.2.2
    | cons => simp at h3; omega
theorem smV_fst {n : Nat} {a : List (Int × Int)} (he : Ev n a) {s : List Int} (h : Fst n a s) : smV n a = .tup [.sl false s.length (i64s s) .unk, I 0] := by
  cases hs : smF a n with
  | none => exact absurd h.1 (smF_none he hs s)
  | some t => rw [← fst_eq (smF_fst he hs) h]; exact smV_some he hs
def twoA : List (Int × Int) := [(0, 1), (1, 0)]
theorem two_ev : Ev (2 : Nat) twoA := by decide
theorem two_fst : Fst 2 twoA [0, 1] := by
  refine ⟨⟨by decide, by decide +kernel⟩, fun t ht => ?_⟩
  have h2 := good_two two_ev ht
  have hp := ix_pw.1 ht.1
  match t, ht, h2, hp with
  | [x, y], ht, _, hp =>
    have hx : 0 ≤ x ∧ x < 2 := hp.1 x (by simp)
    have hy : 0 ≤ y ∧ y < 2 := hp.1 y (by simp)
    have hxy : x < y := by
      have := hp.2
      simp only [List.pairwise_cons, List.mem_singleton, forall_eq] at this
      exact this.1
    obtain rfl : x = 0 := by omega
    obtain rfl : y = 1 := by omega
    exact .inr ⟨rfl, by decide⟩
  | x :: y :: z :: t, _, _, _ => exact .inl (by simp)
theorem two_sm : smV 2 twoA = .tup [.sl false 2 [I 0, I 1] .unk, I 0] := smV_fst two_ev two_fst
theorem two_le : leV 2 twoA [3, 2] = .tup [.sl false 1 [I 1] .unk, I 2, I 0] := by
  have h1 : (lsK 2 twoA [3, 2] 2).1 = [1] := by decide +kernel
  have h2 : tot 2 twoA [3, 2] = 2 := by decide +kernel
  have h0 : chkE (2 : Int) twoA [3, 2] = 0 := by decide
  unfold leV
  rw [if_pos h0]
  show AV.tup [gl (i64s (nats (lsK 2 twoA [3, 2] 2).1)) (nats (lsK 2 twoA [3, 2] 2).1).length .unk, I (tot 2 twoA [3, 2]), I 0] = _
  rw [h1, h2]
  rfl
theorem r_awake (h : AH) : RCall Tryz.prog n_coinagetop_repairAwake [] h (.bool true) := by
  refine RCall.of hm cF_coinagetop_repairAwake (by simp [g_coinagetop_repairAwake]) fun hw h' hl => ?_
  simp only [F_coinagetop_repairAwake, g_coinagetop_repairAwake, go_sem, ↓tq_n, ↓tq_e, ↓tq_r, ↓bq_n, ↓bq_e, ↓bq_r, ↓rq_n, ↓rq_r, ↓rq_e]
  refine CallG.mk (r_contradiction_Smallest 2 false twoA .full _) ?_
  rw [two_sm]
  simp only [F_coinagetop_repairAwake, g_coinagetop_repairAwake, go_sem, ↓tq_n, ↓tq_e, ↓tq_r, ↓bq_n, ↓bq_e, ↓bq_r, ↓rq_n, ↓rq_r, ↓rq_e]
  refine CallG.mk (r_attribution_Least 2 false twoA .full false [3, 2] .full _) ?_
  rw [two_le]
  simp only [F_coinagetop_repairAwake, g_coinagetop_repairAwake, go_sem, ↓tq_n, ↓tq_e, ↓tq_r, ↓bq_n, ↓bq_e, ↓bq_r, ↓rq_n, ↓rq_r, ↓rq_e]
  refine CallG.mk (r_base_Ints false false [0, 1] [0, 1] .unk .full _) ?_
  simp only [F_coinagetop_repairAwake, g_coinagetop_repairAwake, go_sem, ↓tq_n, ↓tq_e, ↓tq_r, ↓bq_n, ↓bq_e, ↓bq_r, ↓rq_n, ↓rq_r, ↓rq_e]
  refine CallG.mk (r_base_Ints false false [1] [1] .unk .full _) ?_
  simp only [F_coinagetop_repairAwake, g_coinagetop_repairAwake, go_sem, ↓tq_n, ↓tq_e, ↓tq_r, ↓bq_n, ↓bq_e, ↓bq_r, ↓rq_n, ↓rq_r, ↓rq_e]
  exact ret_ok rfl
end Go.Proofs.YtidmekdkfiljjaaGreat
namespace Go.Proofs.YtidmekdkfiljjaaGreat
open Go Go.Abs
set_option linter.unusedSimpArgs false
set_option linter.unusedVariables false
set_option maxRecDepth 20000

/-- Another end of a loop: what is known there may be turned. -/
theorem loop_post {P : Program} {g : Cfg} {c : C} {e : Env} {h : AH} {Q : Exit → Env → AH → Prop} (Q' : Exit → Env → AH → Prop) (hl : AWP P g (.loop c) Q' e h) (hq : ∀ x e h, Q' x e h → ∃ e' h', Abs.GStep e h e' h' ∧ Q x e' h') : LoopG P g c e h (q := ⟨Q⟩) := by
  intro code hc s w0 own a w hs
  exact wp_mono (hl code hc s w0 own a w hs) fun x a w ⟨s'', e'', h'', m1, m2, m3⟩ => by
    obtain ⟨e', h', k1, k2⟩ := hq _ _ _ m3
    obtain ⟨s3, l1, l2⟩ := k1 _ _ _ _ _ _ m2
    exact ⟨s3, e', h', m1.trans l1, l2, k2⟩
def u8s (xs : List Int) : List AV := xs.map fun n => AV.int .u8 n
theorem u8s_drop {xs : List Int} {i : Nat} (h : i < xs.length) : (u8s xs).drop i = AV.int .u8 (xs.getD i 0) :: (u8s xs).drop (i + 1) := by
  have : (u8s xs).drop i = u8s (xs.drop i) := by simp [u8s, List.map_drop]
  rw [this, getD_drop xs 0 h]
  simp [u8s, List.map_drop]
theorem wf_u8s {n : Nat} {nl : Bool} {m : Nat} {xs : List Int} {tl : Tail} (h : AV.wfn (n + 1) (.sl nl m (u8s xs) tl)) : ∀ x ∈ xs, InR .u8 x := fun x hx =>
  wf_int (n := n) (h.2 (.int .u8 x) (by simp only [AV.subs, u8s, List.mem_map]; exact ⟨x, hx, rfl⟩))
theorem inRu8 {x : Int} : InR .u8 x ↔ 0 ≤ x ∧ x ≤ 255 := by
  simp [InR, IntKind.min, IntKind.max, IntKind.signed, IntKind.bits]
/-- The weights. -/
def wtK (w : List Int) (k : Nat) : Int := if k < w.length then 1 + (w.getD k 0).tmod 9 else 1
def wtL (w : List Int) (m : Nat) : List Int := (List.range m).map (wtK w)
theorem wtL_len (w : List Int) (m : Nat) : (wtL w m).length = m := by simp [wtL]
/-- The first i weights, and zeros. -/
def wtZ (w : List Int) (m i : Nat) : List Int := (List.range m).map fun k => if k < i then wtK w k else 0
theorem wtZ_len (w : List Int) (m i : Nat) : (wtZ w m i).length = m := by simp [wtZ]
theorem wtZ_zero (w : List Int) (m : Nat) : wtZ w m 0 = List.replicate m 0 := by
  apply List.ext_getElem <;> simp [wtZ]
theorem wtZ_all (w : List Int) (m : Nat) : wtZ w m m = wtL w m := by
  apply List.ext_getElem
  · simp [wtZ, wtL]
  · intro i h1 h2
    simp [wtZ_len] at h1
    simp [wtZ, wtL, h1]
theorem wtZ_succ {w : List Int} {m i : Nat} (hi : i < m) : wtZ w m (i + 1) = (wtZ w m i).set i (wtK w i) := by
  apply List.ext_getElem
  · simp [wtZ]
  · intro k h1 h2
    rw [List.getElem_set]
    simp only [wtZ, List.getElem_map, List.getElem_range]
    by_cases hk : i = k
    · subst hk; rw [if_pos rfl, if_pos (by omega)]
    · rw [if_neg hk]
      by_cases hk2 : k < i
      · rw [if_pos hk2, if_pos (by omega)]
      · rw [if_neg hk2, if_neg (by omega)]
theorem wtK_bd {w : List Int} (hw : ∀ x ∈ w, InR .u8 x) (k : Nat) : 1 ≤ wtK w k ∧ wtK w k ≤ 9 := by
  unfold wtK
  split
  · rename_i h
    have h1 := inRu8.1 (hw _ (mem_getD (d := 0) h))
    have h2 := Int.tmod_nonneg 9 h1.1
    have h3 := Int.tmod_lt_of_pos (w.getD k 0) (show (0 : Int) < 9 by decide)
    omega
  · omega
theorem pk_nil {n : Nat} {a : List (Int × Int)} (he : Ev n a) (w : List Int) : (pkF n a w a.length (nats (List.range a.length))).1 = [] ↔ cyB n a = false := by
  have hix := all_ix a.length
  have hsa := sub_all a
  cases hs : smF (sub a (nats (List.range a.length))) n with
  | none =>
    rw [pkF_none hs]
    rw [hsa] at hs
    refine ⟨fun _ => Bool.eq_false_iff.2 fun hc => ?_, fun _ => rfl⟩
    exact smF_none he hs _ ⟨hix, by rw [hsa]; exact hc⟩
  | some s =>
    have hs' := hs
    rw [hsa] at hs'
    have hg := (smF_fst he hs').1
    obtain ⟨ks, u, k1, k2, _⟩ := (cy_iff he hg.1).1 hg.2
    have hcy := (cy_girth he).2 ⟨ks, u, k1, k2⟩
    obtain ⟨f, hf⟩ : ∃ f, a.length = f + 1 := ⟨a.length - 1, by
      cases ks with
      | nil => exact absurd rfl k1
      | cons k ks => have := k2.1; omega⟩
    rw [hf] at hs ⊢
    rw [pkF_some hs]
    exact ⟨fun h => by simp at h, fun h => by rw [h] at hcy; cases hcy⟩
theorem dg_ev {n : Nat} {a : List (Int × Int)} (hd : P.Dg n a) (hl : a.length ≤ 24) : Ev n a := ⟨hd.1, hd.2.1, by omega, fun i hi => by
  obtain ⟨h1, h2, h3, h4, h5⟩ := (hd.2.2 i hi).1
  exact ⟨⟨h1, h2⟩, ⟨h3, h4⟩, h5⟩⟩
theorem sm_any {n : Nat} {a : List (Int × Int)} (he : Ev n a) : ∃ (e : Int) (L : Nat) (nS : Bool) (cS : List AV) (tS : Tail) (nC : Bool) (cC : List AV) (tC : Tail), smV n a = .tup [.sl nS L cS tS, I e] ∧ cyV n a = .tup [.sl nC L cC tC, I e] ∧ decide (e = 7) = !cyB n a := by
  rcases sm_cases he with ⟨h1, h2, h3⟩ | ⟨g, s, c, h1, h2, h3⟩
  · exact ⟨7, 0, _, _, _, _, _, _, h2, h3, by rw [h1]; rfl⟩
  · exact ⟨0, g, _, _, _, _, _, _, h2, h3, by rw [h1]; rfl⟩
theorem orV_yes {n : Nat} {a : List (Int × Int)} {w : List Int} (h : chkE n a w = 0) : ∃ o : List Int, orV n a w = .tup [gl (i64s o) o.length .unk, I (tot n a w), I 0] ∧ Prm o n := by
  refine ⟨nats (gO n a w n []), by unfold orV; rw [if_pos h, Int.toNat_natCast], ?_⟩
  have h1 := (gO_find (n := n) (okc_w1 (chk_ok.1 h)).ok n [] ⟨List.nodup_nil, by simp⟩ (by simp)).1
  have h2 := (mem_enum n [] ⟨List.nodup_nil, by simp⟩ (by simp) _).1 (List.mem_of_find?_eq_some h1)
  exact prm_of h2.1 h2.2.1
theorem pkV_yes {n : Nat} {a : List (Int × Int)} {w : List Int} (h : chkE n a w = 0) : ∃ (O : List (List Int)) (b : Int), pkV n a w = .tup [gl (lls O) O.length .unk, I b, I 0] ∧ b ≤ tot n a w ∧ decide ((O.length : Int) = 0) = !cyB n a := by
  have hok := chk_ok.1 h
  have he := hok.2.2.1
  have hw0 : ∀ k, 0 ≤ w.getD k 0 := fun k => by
    by_cases hk : k < a.length
    · exact (okc_w1 hok).ok k hk
    · rw [List.getD_eq_getElem?_getD, List.getElem?_eq_none (by have := hok.2.2.2.1; omega)]; exact Int.le_refl _
  refine ⟨_, _, by unfold pkV; rw [if_pos h, Int.toNat_natCast], ?_, ?_⟩
  · obtain ⟨nl, q, le1, le2⟩ := leV_yes h
    have h1 := bl_rp hok le2.1 le2.2.1
    have h2 := pk_cost_set he hw0 (Bl_ix a q) (rpB_iff.1 h1).2 a.length (left := nats (List.range a.length)) (all_ix _)
    rw [cs_Bl] at h2
    have h3 : bc a w q = tot n a w := le2.2.2
    omega
  · have hz := pk_nil (n := n) he w
    cases hc : cyB n a with
    | false => rw [hz.2 hc]; rfl
    | true =>
      refine decide_eq_false fun h0 => ?_
      rw [hz.1 (List.length_eq_zero_iff.1 (by omega))] at hc
      cases hc
set_option maxHeartbeats 16000000 in
theorem r_top_WholeContradiction (n1 : Bool) (l : List P.Spm) (u1 : Tail) (n2 : Bool) (c : List (Int × Int)) (u2 : Tail) (n3 : Bool) (w : List Int) (u3 : Tail) (h : AH) : RCall Tryz.prog n_coinagetop_WholeContradiction [.sl n1 l.length (P.sms l) u1, .sl n2 c.length (prs c) u2, .sl n3 w.length (u8s w) u3] h (.bool true) := by
  refine RCall.of hm cF_coinagetop_WholeContradiction (by simp [g_coinagetop_WholeContradiction]) fun hw h' hl => ?_
  have hw8 := wf_u8s (hw _ (.tail _ (.tail _ (.head _))))
  simp only [F_coinagetop_WholeContradiction, g_coinagetop_WholeContradiction, go_sem, ↓tq_n, ↓tq_e, ↓tq_r, ↓bq_n, ↓bq_e, ↓bq_r, ↓rq_n, ↓rq_r, ↓rq_e]
  refine CallG.mk (r_awake _) ?_
  simp only [F_coinagetop_WholeContradiction, g_coinagetop_WholeContradiction, go_sem, ↓tq_n, ↓tq_e, ↓tq_r, ↓bq_n, ↓bq_e, ↓bq_r, ↓rq_n, ↓rq_r, ↓rq_e]
  by_cases c1 : (7 : Int) < (l.length : Int)
  · simp only [c1, F_coinagetop_WholeContradiction, g_coinagetop_WholeContradiction, go_sem, ↓tq_n, ↓tq_e, ↓tq_r, ↓bq_n, ↓bq_e, ↓bq_r, ↓rq_n, ↓rq_r, ↓rq_e]
    refine CallG.mk (r_awake _) ?_
    simp only [F_coinagetop_WholeContradiction, g_coinagetop_WholeContradiction, go_sem, ↓tq_n, ↓tq_e, ↓tq_r, ↓bq_n, ↓bq_e, ↓bq_r, ↓rq_n, ↓rq_r, ↓rq_e]
    exact ret_ok rfl
  by_cases c2 : (6 : Int) < (c.length : Int)
  · simp only [c1, c2, F_coinagetop_WholeContradiction, g_coinagetop_WholeContradiction, go_sem, ↓tq_n, ↓tq_e, ↓tq_r, ↓bq_n, ↓bq_e, ↓bq_r, ↓rq_n, ↓rq_r, ↓rq_e]
    refine CallG.mk (r_awake _) ?_
    simp only [F_coinagetop_WholeContradiction, g_coinagetop_WholeContradiction, go_sem, ↓tq_n, ↓tq_e, ↓tq_r, ↓bq_n, ↓bq_e, ↓bq_r, ↓rq_n, ↓rq_r, ↓rq_e]
    exact ret_ok rfl
  simp only [c1, c2, F_coinagetop_WholeContradiction, g_coinagetop_WholeContradiction, go_sem, ↓tq_n, ↓tq_e, ↓tq_r, ↓bq_n, ↓bq_e, ↓bq_r, ↓rq_n, ↓rq_r, ↓rq_e]
  refine CallG.mk (P.r_precedence_Build n1 l u1 n2 c u2 _) ?_
  by_cases c3 : P.gaE l c = 0
  case neg =>
    have e1 : P.blV l c = .tup [.sl true 0 [] .full, I (P.gaE l c)] := by unfold P.blV; rw [if_neg c3]
    rw [e1]
    simp only [c3, F_coinagetop_WholeContradiction, g_coinagetop_WholeContradiction, go_sem, ↓tq_n, ↓tq_e, ↓tq_r, ↓bq_n, ↓bq_e, ↓bq_r, ↓rq_n, ↓rq_r, ↓rq_e]
    exact ret_ok rfl
  have e1 : P.blV l c = .tup [gl (prs (P.arcL (P.pcs l c))) (P.arcL (P.pcs l c)).length .unk, I 0] := by unfold P.blV; rw [if_pos c3]
  have hd := P.dg_arcL c3
  have hac : P.csV l c = .tup [.bool (!cyB l.length (P.arcL (P.pcs l c))), I 0] := by
    unfold P.csV
    rw [c3, decide_eq_true rfl, Bool.true_and, P.acB, aci_cy]
  rw [e1]
  have hll : l.length ≤ 7 := by omega
  generalize P.arcL (P.pcs l c) = a at hd hac ⊢
  by_cases c4 : (24 : Int) < (a.length : Int)
  · simp only [c4, F_coinagetop_WholeContradiction, g_coinagetop_WholeContradiction, go_sem, ↓tq_n, ↓tq_e, ↓tq_r, ↓bq_n, ↓bq_e, ↓bq_r, ↓rq_n, ↓rq_r, ↓rq_e]
    exact ret_ok rfl
  simp only [c4, F_coinagetop_WholeContradiction, g_coinagetop_WholeContradiction, go_sem, ↓tq_n, ↓tq_e, ↓tq_r, ↓bq_n, ↓bq_e, ↓bq_r, ↓rq_n, ↓rq_r, ↓rq_e]
  refine MakeG.mk (by omega) (Int.le_refl _) (by omega) (by omega) fun b hb => ?_
  rw [flat_rep]
  simp only [F_coinagetop_WholeContradiction, g_coinagetop_WholeContradiction, go_sem, ↓tq_n, ↓tq_e, ↓tq_r, ↓bq_n, ↓bq_e, ↓bq_r, ↓rq_n, ↓rq_r, ↓rq_e]
  refine loop_post (fun x e g => x = .exit 0 ∧ e.get 9 = .msl b 0 a.length (some a.length) ∧ EnvLe [(0, .sl n1 l.length (P.sms l) u1), (1, .sl n2 c.length (prs c) u2), (7, gl (prs a) a.length .unk)] e ∧ g = h'.put b (i64s (wtL w a.length))) ?_ ?_
  · refine awp_loop (fun i : Nat => [(0, .sl n1 l.length (P.sms l) u1), (1, .sl n2 c.length (prs c) u2), (2, .sl n3 w.length (u8s w) u3), (7, gl (prs a) a.length .unk), (9, .msl b 0 a.length (some a.length)), (10, I i)]) (fun i => h'.put b (i64s (wtZ w a.length i))) (fun i => i ≤ a.length) (fun i => a.length - i) 0 (Nat.zero_le _) (by rw [wtZ_zero]; simp only [i64s, List.map_replicate]; exact (GStep.forget (by repeat' first | exact EnvLe.nil _ | refine EnvLe.cons (AV.le.of_eq rfl) ?_ | refine EnvLe.cons (AV.le.undef _) ?_ | refine EnvLe.cons AV.le.unk ?_) (by repeat' first | exact AH.le.refl _ | assumption | (refine AH.le_put ?_ (by first | assumption | exact (AH.blk_put_ne _ _ (by assumption)).trans (by assumption) | exact AH.none_put (by assumption) | exact AH.none_put (AH.none_put (by assumption)) | (simp only [AH.blk_setTok, AH.tok_put] at *; first | assumption | exact AH.none_put (by assumption)))) | (refine AH.le_setTok ?_ (by first | assumption | exact (AH.blk_put_ne _ _ (by assumption)).trans (by assumption) | exact AH.none_put (by assumption) | exact AH.none_put (AH.none_put (by assumption)) | (simp only [AH.blk_setTok, AH.tok_put] at *; first | assumption | exact AH.none_put (by assumption)))) | (refine AH.le_putM ?_ (by first | assumption | exact (AH.mp_putM_ne _ _ (by assumption)).trans (by assumption) | (simp only [AH.mp_put, AH.mp_setTok] at *; assumption)))))) fun i hi => .of_vg hm ?_
    by_cases h5 : i < a.length
    · have hc : (i : Int) < (a.length : Int) := by omega
      have hwl := wtZ_len w a.length i
      by_cases h6 : i < w.length
      · have hc6 : (i : Int) < (w.length : Int) := by omega
        have hb8 := inRu8.1 (hw8 _ (mem_getD (d := 0) h6))
        have ewr : IntKind.wrap .i64 (w.getD i 0) = w.getD i 0 := wrap_in (by rw [inR64]; omega)
        simp only [hc, hc6, u8s_drop h6, ewr, F_coinagetop_WholeContradiction, g_coinagetop_WholeContradiction, go_sem, ↓tq_n, ↓tq_e, ↓tq_r, ↓bq_n, ↓bq_e, ↓bq_r, ↓rq_n, ↓rq_r, ↓rq_e]
        refine ⟨by rw [i64s_len]; omega, by decide, by rw [inR64]; have := wtK_bd hw8 i; unfold wtK at this; rw [if_pos h6] at this; omega, by rw [List.length_set, i64s_len]; omega, by rw [inR64]; omega, i + 1, by omega, by omega, ?_⟩
        have e7 : i64s (wtZ w a.length (i + 1)) = ((i64s (wtZ w a.length i)).set i (AV.int IntKind.i64 1)).set i (AV.int IntKind.i64 (1 + (w.getD i 0).tmod 9)) := by
          rw [wtZ_succ h5, List.set_set]
          unfold wtK
          rw [if_pos h6]
          simp only [i64s, List.map_set]
        rw [e7]
        exact (GStep.forget (by repeat' first | exact EnvLe.nil _ | refine EnvLe.cons (AV.le.of_eq rfl) ?_ | refine EnvLe.cons (AV.le.undef _) ?_ | refine EnvLe.cons AV.le.unk ?_) (by repeat' first | exact AH.le.refl _ | assumption | (refine AH.le_put ?_ (by first | assumption | exact (AH.blk_put_ne _ _ (by assumption)).trans (by assumption) | exact AH.none_put (by assumption) | exact AH.none_put (AH.none_put (by assumption)) | (simp only [AH.blk_setTok, AH.tok_put] at *; first | assumption | exact AH.none_put (by assumption)))) | (refine AH.le_setTok ?_ (by first | assumption | exact (AH.blk_put_ne _ _ (by assumption)).trans (by assumption) | exact AH.none_put (by assumption) | exact AH.none_put (AH.none_put (by assumption)) | (simp only [AH.blk_setTok, AH.tok_put] at *; first | assumption | exact AH.none_put (by assumption)))) | (refine AH.le_putM ?_ (by first | assumption | exact (AH.mp_putM_ne _ _ (by assumption)).trans (by assumption) | (simp only [AH.mp_put, AH.mp_setTok] at *; assumption)))))
      · have hc6 : ¬ (i : Int) < (w.length : Int) := by omega
        simp only [hc, hc6, F_coinagetop_WholeContradiction, g_coinagetop_WholeContradiction, go_sem, ↓tq_n, ↓tq_e, ↓tq_r, ↓bq_n, ↓bq_e, ↓bq_r, ↓rq_n, ↓rq_r, ↓rq_e]
        refine ⟨by rw [i64s_len]; omega, by rw [inR64]; omega, i + 1, by omega, by omega, ?_⟩
        have e7 : i64s (wtZ w a.length (i + 1)) = (i64s (wtZ w a.length i)).set i (AV.int IntKind.i64 1) := by
          rw [wtZ_succ h5]
          unfold wtK
          rw [if_neg h6]
          simp only [i64s, List.map_set]
        rw [e7]
        exact (GStep.forget (by repeat' first | exact EnvLe.nil _ | refine EnvLe.cons (AV.le.of_eq rfl) ?_ | refine EnvLe.cons (AV.le.undef _) ?_ | refine EnvLe.cons AV.le.unk ?_) (by repeat' first | exact AH.le.refl _ | assumption | (refine AH.le_put ?_ (by first | assumption | exact (AH.blk_put_ne _ _ (by assumption)).trans (by assumption) | exact AH.none_put (by assumption) | exact AH.none_put (AH.none_put (by assumption)) | (simp only [AH.blk_setTok, AH.tok_put] at *; first | assumption | exact AH.none_put (by assumption)))) | (refine AH.le_setTok ?_ (by first | assumption | exact (AH.blk_put_ne _ _ (by assumption)).trans (by assumption) | exact AH.none_put (by assumption) | exact AH.none_put (AH.none_put (by assumption)) | (simp only [AH.blk_setTok, AH.tok_put] at *; first | assumption | exact AH.none_put (by assumption)))) | (refine AH.le_putM ?_ (by first | assumption | exact (AH.mp_putM_ne _ _ (by assumption)).trans (by assumption) | (simp only [AH.mp_put, AH.mp_setTok] at *; assumption)))))
    · have h5 : i = a.length := by omega
      subst h5
      simp only [F_coinagetop_WholeContradiction, g_coinagetop_WholeContradiction, go_sem, ↓tq_n, ↓tq_e, ↓tq_r, ↓bq_n, ↓bq_e, ↓bq_r, ↓rq_n, ↓rq_r, ↓rq_e]
      exact ⟨(by repeat' first | exact EnvLe.nil _ | refine EnvLe.cons (AV.le.of_eq rfl) ?_ | refine EnvLe.cons (AV.le.undef _) ?_ | refine EnvLe.cons AV.le.unk ?_), by rw [wtZ_all]⟩
  rintro x e g ⟨rfl, k1, k2, rfl⟩
  refine ⟨_, _, GStep.fix (cs := i64s (wtL w a.length)) k1 (AH.blk_put _ _ _) 1 k2, ?_⟩
  rw [AH.del_put hb]
  have hWl := wtL_len w a.length
  have hWw : Wl (wtL w a.length) := fun i hi => by
    rw [hWl] at hi
    have e : (wtL w a.length).getD i 0 = wtK w i := by simp [wtL, List.getD, hi]
    rw [e]
    have := wtK_bd hw8 i
    omega
  have etk : (i64s (wtL w a.length)).take (a.length * 1) = i64s (wtL w a.length) := List.take_of_length_le (by rw [i64s_len]; omega)
  rw [etk]
  generalize wtL w a.length = W at hWl hWw ⊢
  have he := dg_ev hd (by omega)
  have hchk : chkE l.length a W = 0 := chk_ok.2 ⟨by omega, by omega, he, hWl, hWw⟩
  have hok := chk_ok.1 hchk
  obtain ⟨ec, L, nS, cS, tS, nC, cC, tC, hS, hC, hec⟩ := sm_any he
  obtain ⟨nL, q, le1, hq⟩ := leV_yes hchk
  have hLe := fun g => r_attribution_Least l.length (decide (a.length = 0)) a .unk false W .unk g
  have hOr := fun g => r_attribution_Ordered l.length (decide (a.length = 0)) a .unk false W .unk g
  have hPk := fun g => r_attribution_PackingM l.length (decide (a.length = 0)) a .unk false W .unk g
  rw [hWl] at hLe hOr hPk
  obtain ⟨or, or1, or2⟩ := orV_yes hchk
  obtain ⟨O, bd, pk1, pk2, pk3⟩ := pkV_yes hchk
  simp only [F_coinagetop_WholeContradiction, g_coinagetop_WholeContradiction, go_sem, ↓tq_n, ↓tq_e, ↓tq_r, ↓bq_n, ↓bq_e, ↓bq_r, ↓rq_n, ↓rq_r, ↓rq_e]
  refine CallG.mk (P.r_precedence_Consistent n1 l u1 n2 c u2 _) ?_
  rw [hac]
  simp only [F_coinagetop_WholeContradiction, g_coinagetop_WholeContradiction, go_sem, ↓tq_n, ↓tq_e, ↓tq_r, ↓bq_n, ↓bq_e, ↓bq_r, ↓rq_n, ↓rq_r, ↓rq_e]
  refine CallG.mk (r_contradiction_Smallest l.length _ a _ _) ?_
  rw [hS]
  simp only [F_coinagetop_WholeContradiction, g_coinagetop_WholeContradiction, go_sem, ↓tq_n, ↓tq_e, ↓tq_r, ↓bq_n, ↓bq_e, ↓bq_r, ↓rq_n, ↓rq_r, ↓rq_e]
  refine CallG.mk (r_poset_Cycle l.length _ a _ (by omega) hd _) ?_
  rw [hC]
  simp only [F_coinagetop_WholeContradiction, g_coinagetop_WholeContradiction, go_sem, ↓tq_n, ↓tq_e, ↓tq_r, ↓bq_n, ↓bq_e, ↓bq_r, ↓rq_n, ↓rq_r, ↓rq_e]
  refine CallG.mk (hLe _) ?_
  rw [le1]
  simp only [F_coinagetop_WholeContradiction, g_coinagetop_WholeContradiction, go_sem, ↓tq_n, ↓tq_e, ↓tq_r, ↓bq_n, ↓bq_e, ↓bq_r, ↓rq_n, ↓rq_r, ↓rq_e]
  refine CallG.mk (hOr _) ?_
  rw [or1]
  simp only [F_coinagetop_WholeContradiction, g_coinagetop_WholeContradiction, go_sem, ↓tq_n, ↓tq_e, ↓tq_r, ↓bq_n, ↓bq_e, ↓bq_r, ↓rq_n, ↓rq_r, ↓rq_e]
  refine CallG.mk (hPk _) ?_
  rw [pk1]
  simp only [F_coinagetop_WholeContradiction, g_coinagetop_WholeContradiction, go_sem, ↓tq_n, ↓tq_e, ↓tq_r, ↓bq_n, ↓bq_e, ↓bq_r, ↓rq_n, ↓rq_r, ↓rq_e]
  refine CallG.mk (r_contradiction_Blame l.length _ a _ he _) ?_
  have htz : decide (tot l.length a W = 0) = !cyB l.length a := by
    have h1 := tot_zero (n := l.length) hchk
    cases hc : cyB l.length a with
    | false => exact decide_eq_true (h1.2 hc)
    | true => exact decide_eq_false fun h2 => by rw [h1.1 h2] at hc; cases hc
  have hRp := fun g => r_attribution_Repairs l.length (decide (a.length = 0)) a .unk false W .unk nL (nats (Bl a q)) .unk g
  rw [hWl, bl_rp hok hq.1 hq.2.1] at hRp
  obtain ⟨o, o1, o2, o3, o4⟩ := rest_order hok hq
  have hBk := fun g nb tl => r_attribution_Back l.length (decide (a.length = 0)) a .unk false W .unk nb (nats o) tl (by rw [nats_len]; omega) g
  have hbv : baV l.length a W (nats o) = .tup [I (tot l.length a W), I 0] := by
    unfold baV
    rw [if_pos hchk, Int.toNat_natCast, if_pos (prm_of o2 o3), nats_toNat, o4]
  rw [hWl, hbv, nats_len] at hBk
  have hbm : ∀ x, x ∈ nats (Bl a q) → x ∈ nats (bmF l.length a a.length) := fun x hx => by
    obtain ⟨k, rfl, hk⟩ := of_nats hx
    exact mem_nats.2 (mem_bmF.2 ⟨(mem_Bl.1 hk).1, least_bm hok hq hk⟩)
  have hSx := Bl_ix a q
  generalize nats (Bl a q) = S at *
  simp only [F_coinagetop_WholeContradiction, g_coinagetop_WholeContradiction, go_sem, ↓tq_n, ↓tq_e, ↓tq_r, ↓bq_n, ↓bq_e, ↓bq_r, ↓rq_n, ↓rq_r, ↓rq_e]
  refine ⟨fun hne => absurd hec.symm hne, fun _ => ⟨fun hlt => absurd hlt (by omega), fun _ => ⟨fun hne => absurd htz.symm hne, fun _ => ⟨fun hne => absurd pk3.symm hne, fun _ => CallG.mk (hRp _) ?_⟩⟩⟩⟩
  simp only [F_coinagetop_WholeContradiction, g_coinagetop_WholeContradiction, go_sem, ↓tq_n, ↓tq_e, ↓tq_r, ↓bq_n, ↓bq_e, ↓bq_r, ↓rq_n, ↓rq_r, ↓rq_e]
  refine CallG.mk (r_base_Order _ or _ l.length (by omega) _) ?_
  rw [decide_eq_true or2]
  simp only [F_coinagetop_WholeContradiction, g_coinagetop_WholeContradiction, go_sem, ↓tq_n, ↓tq_e, ↓tq_r, ↓bq_n, ↓bq_e, ↓bq_r, ↓rq_n, ↓rq_r, ↓rq_e]
  obtain ⟨B, hB⟩ : ∃ B, B = nats (bmF l.length a a.length) := ⟨_, rfl⟩
  rw [← hB] at hbm ⊢
  have hS24 := ix_len hSx
  refine awp_loop (fun i : Nat => [(0, .sl n1 l.length (P.sms l) u1), (7, gl (prs a) a.length .unk), (9, .sl false a.length (i64s W) .unk), (17, .sl nL S.length (i64s S) .unk), (18, I (tot l.length a W)), (26, gl (i64s B) B.length .unk), (28, I i)]) (fun _ => h') (fun i => i ≤ S.length) (fun i => S.length - i) 0 (Nat.zero_le _) (GStep.forget (by repeat' first | exact EnvLe.nil _ | refine EnvLe.cons (AV.le.of_eq rfl) ?_ | refine EnvLe.cons (AV.le.undef _) ?_ | refine EnvLe.cons AV.le.unk ?_) (by repeat' first | exact AH.le.refl _ | assumption | (refine AH.le_put ?_ (by first | assumption | exact (AH.blk_put_ne _ _ (by assumption)).trans (by assumption) | exact AH.none_put (by assumption) | exact AH.none_put (AH.none_put (by assumption)) | (simp only [AH.blk_setTok, AH.tok_put] at *; first | assumption | exact AH.none_put (by assumption)))) | (refine AH.le_setTok ?_ (by first | assumption | exact (AH.blk_put_ne _ _ (by assumption)).trans (by assumption) | exact AH.none_put (by assumption) | exact AH.none_put (AH.none_put (by assumption)) | (simp only [AH.blk_setTok, AH.tok_put] at *; first | assumption | exact AH.none_put (by assumption)))) | (refine AH.le_putM ?_ (by first | assumption | exact (AH.mp_putM_ne _ _ (by assumption)).trans (by assumption) | (simp only [AH.mp_put, AH.mp_setTok] at *; assumption))))) fun i hi => .of_vg hm ?_
  by_cases h5 : i < S.length
  · have hc : (i : Int) < (S.length : Int) := by omega
    simp only [hc, i64s_drop h5, F_coinagetop_WholeContradiction, g_coinagetop_WholeContradiction, go_sem, ↓tq_n, ↓tq_e, ↓tq_r, ↓bq_n, ↓bq_e, ↓bq_r, ↓rq_n, ↓rq_r, ↓rq_e]
    refine CallG.mk (r_base_Has _ B _ _ _) ?_
    rw [decide_eq_true (hbm _ (mem_getD h5))]
    simp only [F_coinagetop_WholeContradiction, g_coinagetop_WholeContradiction, go_sem, ↓tq_n, ↓tq_e, ↓tq_r, ↓bq_n, ↓bq_e, ↓bq_r, ↓rq_n, ↓rq_r, ↓rq_e]
    exact ⟨by rw [inR64]; omega, i + 1, by omega, by omega, (GStep.forget (by repeat' first | exact EnvLe.nil _ | refine EnvLe.cons (AV.le.of_eq rfl) ?_ | refine EnvLe.cons (AV.le.undef _) ?_ | refine EnvLe.cons AV.le.unk ?_) (by repeat' first | exact AH.le.refl _ | assumption | (refine AH.le_put ?_ (by first | assumption | exact (AH.blk_put_ne _ _ (by assumption)).trans (by assumption) | exact AH.none_put (by assumption) | exact AH.none_put (AH.none_put (by assumption)) | (simp only [AH.blk_setTok, AH.tok_put] at *; first | assumption | exact AH.none_put (by assumption)))) | (refine AH.le_setTok ?_ (by first | assumption | exact (AH.blk_put_ne _ _ (by assumption)).trans (by assumption) | exact AH.none_put (by assumption) | exact AH.none_put (AH.none_put (by assumption)) | (simp only [AH.blk_setTok, AH.tok_put] at *; first | assumption | exact AH.none_put (by assumption)))) | (refine AH.le_putM ?_ (by first | assumption | exact (AH.mp_putM_ne _ _ (by assumption)).trans (by assumption) | (simp only [AH.mp_put, AH.mp_setTok] at *; assumption)))))⟩
  have h5 : i = S.length := by omega
  subst h5
  simp only [F_coinagetop_WholeContradiction, g_coinagetop_WholeContradiction, go_sem, ↓tq_n, ↓tq_e, ↓tq_r, ↓bq_n, ↓bq_e, ↓bq_r, ↓rq_n, ↓rq_r, ↓rq_e]
  refine awp_tok 29 2 (nl := true) (n := 0) (cs := []) rfl fun t ht => ?_
  refine awp_loop (fun i : Nat => [(0, .sl n1 l.length (P.sms l) u1), (7, gl (prs a) a.length .unk), (9, .sl false a.length (i64s W) .unk), (17, .sl nL S.length (i64s S) .unk), (18, I (tot l.length a W)), (29, gl (prs (sub a (nats (rsK S i)))) (sub a (nats (rsK S i))).length (.tok t)), (30, I i)]) (fun i => h'.setTok t (sub a (nats (rsK S i))).length 2) (fun i => i ≤ a.length) (fun i => a.length - i) 0 (Nat.zero_le _) (GStep.forget (by repeat' first | exact EnvLe.nil _ | refine EnvLe.cons (AV.le.of_eq rfl) ?_ | refine EnvLe.cons (AV.le.undef _) ?_ | refine EnvLe.cons AV.le.unk ?_) (by repeat' first | exact AH.le.refl _ | assumption | (refine AH.le_put ?_ (by first | assumption | exact (AH.blk_put_ne _ _ (by assumption)).trans (by assumption) | exact AH.none_put (by assumption) | exact AH.none_put (AH.none_put (by assumption)) | (simp only [AH.blk_setTok, AH.tok_put] at *; first | assumption | exact AH.none_put (by assumption)))) | (refine AH.le_setTok ?_ (by first | assumption | exact (AH.blk_put_ne _ _ (by assumption)).trans (by assumption) | exact AH.none_put (by assumption) | exact AH.none_put (AH.none_put (by assumption)) | (simp only [AH.blk_setTok, AH.tok_put] at *; first | assumption | exact AH.none_put (by assumption)))) | (refine AH.le_putM ?_ (by first | assumption | exact (AH.mp_putM_ne _ _ (by assumption)).trans (by assumption) | (simp only [AH.mp_put, AH.mp_setTok] at *; assumption))))) fun i hi => .of_vg hm ?_
  by_cases h5 : i < a.length
  · have hc : (i : Int) < (a.length : Int) := by omega
    have hrl : (sub a (nats (rsK S i))).length ≤ i := by rw [sub_len, nats_len]; exact rsK_len S i
    have hsucc := rsK_succ S i
    simp only [hc, F_coinagetop_WholeContradiction, g_coinagetop_WholeContradiction, go_sem, ↓tq_n, ↓tq_e, ↓tq_r, ↓bq_n, ↓bq_e, ↓bq_r, ↓rq_n, ↓rq_r, ↓rq_e]
    refine CallG.mk (r_base_Has _ S _ _ _) ?_
    by_cases c5 : (i : Int) ∈ S
    · rw [if_pos c5] at hsucc
      rw [decide_eq_true c5]
      simp only [F_coinagetop_WholeContradiction, g_coinagetop_WholeContradiction, go_sem, ↓tq_n, ↓tq_e, ↓tq_r, ↓bq_n, ↓bq_e, ↓bq_r, ↓rq_n, ↓rq_r, ↓rq_e]
      refine ⟨by rw [inR64]; omega, i + 1, by omega, by omega, ?_⟩
      rw [hsucc]
      exact (GStep.forget (by repeat' first | exact EnvLe.nil _ | refine EnvLe.cons (AV.le.of_eq rfl) ?_ | refine EnvLe.cons (AV.le.undef _) ?_ | refine EnvLe.cons AV.le.unk ?_) (by repeat' first | exact AH.le.refl _ | assumption | (refine AH.le_put ?_ (by first | assumption | exact (AH.blk_put_ne _ _ (by assumption)).trans (by assumption) | exact AH.none_put (by assumption) | exact AH.none_put (AH.none_put (by assumption)) | (simp only [AH.blk_setTok, AH.tok_put] at *; first | assumption | exact AH.none_put (by assumption)))) | (refine AH.le_setTok ?_ (by first | assumption | exact (AH.blk_put_ne _ _ (by assumption)).trans (by assumption) | exact AH.none_put (by assumption) | exact AH.none_put (AH.none_put (by assumption)) | (simp only [AH.blk_setTok, AH.tok_put] at *; first | assumption | exact AH.none_put (by assumption)))) | (refine AH.le_putM ?_ (by first | assumption | exact (AH.mp_putM_ne _ _ (by assumption)).trans (by assumption) | (simp only [AH.mp_put, AH.mp_setTok] at *; assumption)))))
    · rw [if_neg c5] at hsucc
      rw [decide_eq_false c5]
      simp only [hc, prs_drop h5, F_coinagetop_WholeContradiction, g_coinagetop_WholeContradiction, go_sem, ↓tq_n, ↓tq_e, ↓tq_r, ↓bq_n, ↓bq_e, ↓bq_r, ↓rq_n, ↓rq_r, ↓rq_e]
      have e8 : sub a (nats (rsK S i ++ [i])) = sub a (nats (rsK S i)) ++ [a.getD i (0, 0)] := by simp [sub, nats]
      refine ⟨by rw [prs_len], by omega, by omega, by rw [inR64]; omega, i + 1, by omega, by omega, ?_⟩
      rw [hsucc, e8, prs_append, prs_one, List.length_append, List.length_singleton]
      exact (GStep.forget (by repeat' first | exact EnvLe.nil _ | refine EnvLe.cons (AV.le.of_eq rfl) ?_ | refine EnvLe.cons (AV.le.undef _) ?_ | refine EnvLe.cons AV.le.unk ?_) (by repeat' first | exact AH.le.refl _ | assumption | (refine AH.le_put ?_ (by first | assumption | exact (AH.blk_put_ne _ _ (by assumption)).trans (by assumption) | exact AH.none_put (by assumption) | exact AH.none_put (AH.none_put (by assumption)) | (simp only [AH.blk_setTok, AH.tok_put] at *; first | assumption | exact AH.none_put (by assumption)))) | (refine AH.le_setTok ?_ (by first | assumption | exact (AH.blk_put_ne _ _ (by assumption)).trans (by assumption) | exact AH.none_put (by assumption) | exact AH.none_put (AH.none_put (by assumption)) | (simp only [AH.blk_setTok, AH.tok_put] at *; first | assumption | exact AH.none_put (by assumption)))) | (refine AH.le_putM ?_ (by first | assumption | exact (AH.mp_putM_ne _ _ (by assumption)).trans (by assumption) | (simp only [AH.mp_put, AH.mp_setTok] at *; assumption)))))
  have h5 : i = a.length := by omega
  subst h5
  have hix := rsK_ix S a.length
  simp only [F_coinagetop_WholeContradiction, g_coinagetop_WholeContradiction, go_sem, ↓tq_n, ↓tq_e, ↓tq_r, ↓bq_n, ↓bq_e, ↓bq_r, ↓rq_n, ↓rq_r, ↓rq_e]
  refine CallG.mk (r_poset_Order l.length _ (sub a (nats (rsK S a.length))) _ (by rw [sub_len]; have := ix_len hix; omega) (dg_sub hd hix) o o1 _) ?_
  simp only [F_coinagetop_WholeContradiction, g_coinagetop_WholeContradiction, go_sem, ↓tq_n, ↓tq_e, ↓tq_r, ↓bq_n, ↓bq_e, ↓bq_r, ↓rq_n, ↓rq_r, ↓rq_e]
  refine CallG.mk (hBk _ _ _) ?_
  simp only [F_coinagetop_WholeContradiction, g_coinagetop_WholeContradiction, go_sem, ↓tq_n, ↓tq_e, ↓tq_r, ↓bq_n, ↓bq_e, ↓bq_r, ↓rq_n, ↓rq_r, ↓rq_e]
  exact ret_le (by repeat' first | exact AH.le.refl _ | assumption | (refine AH.le_put ?_ (by first | assumption | exact (AH.blk_put_ne _ _ (by assumption)).trans (by assumption) | exact AH.none_put (by assumption) | exact AH.none_put (AH.none_put (by assumption)) | (simp only [AH.blk_setTok, AH.tok_put] at *; first | assumption | exact AH.none_put (by assumption)))) | (refine AH.le_setTok ?_ (by first | assumption | exact (AH.blk_put_ne _ _ (by assumption)).trans (by assumption) | exact AH.none_put (by assumption) | exact AH.none_put (AH.none_put (by assumption)) | (simp only [AH.blk_setTok, AH.tok_put] at *; first | assumption | exact AH.none_put (by assumption)))) | (refine AH.le_putM ?_ (by first | assumption | exact (AH.mp_putM_ne _ _ (by assumption)).trans (by assumption) | (simp only [AH.mp_put, AH.mp_setTok] at *; assumption)))) (AV.le.refl _)
end Go.Proofs.YtidmekdkfiljjaaGreat
namespace Go.Proofs.YtidmekdkfiljjaaGreat.P
open Go Go.Abs

theorem has_spm {xs : List AV} (h : Has (.st [.int .i64, .int .i64, .int .i64, .int .i64, .int .i64, .int .i64, .int .i64]) xs) : ∃ x : Spm, xs = x.cs := by
  obtain ⟨r1, c1, rfl, h1, h⟩ := has_cons h
  obtain ⟨r2, c2, rfl, h2, h⟩ := has_cons h
  obtain ⟨r3, c3, rfl, h3, h⟩ := has_cons h
  obtain ⟨r4, c4, rfl, h4, h⟩ := has_cons h
  obtain ⟨r5, c5, rfl, h5, h⟩ := has_cons h
  obtain ⟨r6, c6, rfl, h6, h⟩ := has_cons h
  obtain ⟨r7, c7, rfl, h7, h⟩ := has_cons h
  obtain rfl := has_nil h
  obtain ⟨a1, rfl, _⟩ := has_int h1
  obtain ⟨a2, rfl, _⟩ := has_int h2
  obtain ⟨a3, rfl, _⟩ := has_int h3
  obtain ⟨a4, rfl, _⟩ := has_int h4
  obtain ⟨a5, rfl, _⟩ := has_int h5
  obtain ⟨a6, rfl, _⟩ := has_int h6
  obtain ⟨a7, rfl, _⟩ := has_int h7
  exact ⟨⟨a1, a2, a3, a4, a5, a6, a7⟩, rfl⟩
theorem has_sms {xs : List AV} (h : Has (.sl (.st [.int .i64, .int .i64, .int .i64, .int .i64, .int .i64, .int .i64, .int .i64])) xs) : ∃ nl, ∃ e : List Spm, xs = [.sl nl e.length (sms e) .unk] := has_rows Spm.cs (fun _ => has_spm) h
end Go.Proofs.YtidmekdkfiljjaaGreat.P
namespace Go.Proofs.YtidmekdkfiljjaaGreat
open Go Go.Abs
theorem has_u8s {xs : List AV} (h : Has (.sl (.int .u8)) xs) : ∃ nl e, xs = [.sl nl e.length (u8s e) .unk] := by
  cases h with
  | sl t nl rows hr =>
    obtain ⟨e, he⟩ : ∃ e : List Int, rows = e.map fun n => [AV.int .u8 n] := by
      induction rows with
      | nil => exact ⟨[], rfl⟩
      | cons r rows ih =>
        obtain ⟨e, he⟩ := ih (fun r' hr' => hr r' (by simp [hr']))
        obtain ⟨n, hn, _⟩ := has_int (hr r (by simp))
        exact ⟨n :: e, by rw [he, hn]; rfl⟩
    subst he
    refine ⟨nl, e, ?_⟩
    have : (e.map fun n => [AV.int .u8 n]).flatten = u8s e := by
      clear hr
      induction e with
      | nil => rfl
      | cons n e ih => simp only [List.map_cons, List.flatten_cons, ih]; rfl
    rw [this, List.length_map]
end Go.Proofs.YtidmekdkfiljjaaGreat
