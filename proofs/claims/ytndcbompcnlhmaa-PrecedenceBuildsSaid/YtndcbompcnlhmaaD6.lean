/- Calls of functions of this seat's program: the numbers of pieces that lead to a place. No condition. -/
import Derived.Test.YtndcbompcnlhmaaD3
import Derived.Test.YtndcbompcnlhmaaP9
import Derived.Test.YtndcbompcnlhmaaT0
import Derived.Test.YtndcbompcnlhmaaA26
namespace Go.Proofs.Ytndcbompcnlhmaa
open Go Go.Abs
set_option linter.unusedSimpArgs false
set_option linter.unusedVariables false
set_option maxRecDepth 20000

theorem mem_tbK {q : Nat → Nat → Bool} {m i : Nat} {x : Int × Int} : x ∈ tbK q m i ↔ ∃ a k : Nat, a < i ∧ k < m ∧ q a k = true ∧ x = ((a : Int), (k : Int)) := by
  unfold tbK rwK
  simp only [List.mem_flatMap, List.mem_range, List.mem_map, List.mem_filter]
  constructor
  · rintro ⟨a, ha, k, ⟨hk, hq⟩, rfl⟩; exact ⟨a, k, ha, hk, hq, rfl⟩
  · rintro ⟨a, k, ha, hk, hq, rfl⟩; exact ⟨a, ha, k, ⟨hk, hq⟩, rfl⟩
theorem mem_pcs {l : List Spm} {c : List (Int × Int)} {p : T3} : p ∈ pcs l c ↔ (∃ s : Nat, s < 2 ∧ ∃ a k : Nat, a < l.length ∧ k < l.length ∧ bfS (l.getD a dS) (l.getD k dS) s = true ∧ p = ((s : Int), (a : Int), (k : Int))) ∨ ∃ q ∈ c, p = (2, plc l q.1, plc l q.2) := by
  unfold pcs pcS pcS pcS
  simp only [List.mem_append, List.nil_append, List.mem_map, mem_tbK, clP, kin]
  constructor
  · rintro ((⟨x, ⟨a, k, h1, h2, h3, rfl⟩, rfl⟩ | ⟨x, ⟨a, k, h1, h2, h3, rfl⟩, rfl⟩) | ⟨q, hq, rfl⟩)
    · exact .inl ⟨0, by omega, a, k, h1, h2, h3, rfl⟩
    · exact .inl ⟨1, by omega, a, k, h1, h2, h3, rfl⟩
    · exact .inr ⟨q, hq, rfl⟩
  · rintro (⟨s, hs, a, k, h1, h2, h3, rfl⟩ | ⟨q, hq, rfl⟩)
    · have : s = 0 ∨ s = 1 := by omega
      rcases this with rfl | rfl
      · exact .inl (.inl ⟨_, ⟨a, k, h1, h2, h3, rfl⟩, rfl⟩)
      · exact .inl (.inr ⟨_, ⟨a, k, h1, h2, h3, rfl⟩, rfl⟩)
    · exact .inr ⟨q, hq, rfl⟩
theorem plc_lt {l : List Spm} {x : Int} (h : 0 ≤ plc l x) : plc l x < l.length := by
  have := (findI_lt (show 0 ≤ plc l x from h)).1
  have h2 : (plc l x).toNat < l.length := this
  omega
/-- What evidence without error is. -/
theorem ga_ok {l : List Spm} {c : List (Int × Int)} (h : gaE l c = 0) : l.length ≤ 24 ∧ ckE l = 0 ∧ Pc l.length (pcs l c) ∧ (pcs l c).length ≤ 1300 ∧ (∀ p ∈ pcs l c, 0 ≤ p.1) ∧ c.length ≤ 64 ∧ ∀ q ∈ c, (0 ≤ plc l q.1 ∧ 0 ≤ plc l q.2) ∧ plc l q.1 ≠ plc l q.2 := by
  unfold gaE at h
  split at h
  · rename_i hc
    split at h
    · omega
    · rename_i hn
      split at h
      · omega
      · rename_i h7
        split at h
        · omega
        · rename_i h1
          have hl : l.length ≤ 24 := by omega
          have hcl : ∀ q ∈ c, (0 ≤ plc l q.1 ∧ 0 ≤ plc l q.2) ∧ plc l q.1 ≠ plc l q.2 := fun q hq => by
            have a1 : ¬ (plc l q.1 < 0 ∨ plc l q.2 < 0) := fun hh => h7 (List.any_eq_true.2 ⟨q, hq, decide_eq_true hh⟩)
            have a2 : ¬ plc l q.1 = plc l q.2 := fun hh => h1 (List.any_eq_true.2 ⟨q, hq, decide_eq_true hh⟩)
            exact ⟨by omega, a2⟩
          refine ⟨hl, hc, fun p hp => ?_, ?_, fun p hp => ?_, by omega, hcl⟩
          · rcases mem_pcs.1 hp with ⟨s, hs, a, k, h1, h2, h3, rfl⟩ | ⟨q, hq, rfl⟩
            · simp only; omega
            · have hq := (hcl q hq).1
              have q1 := plc_lt hq.1
              have q2 := plc_lt hq.2
              simp only; omega
          · have := pcS_len hl 2
            unfold pcs
            rw [List.length_append, List.length_map]
            omega
          · rcases mem_pcs.1 hp with ⟨s, hs, a, k, h1, h2, h3, rfl⟩ | ⟨q, hq, rfl⟩
            · simp only; omega
            · simp only; omega
  · exact absurd h (by assumption)
theorem i64s_set (xs : List Int) (i : Nat) (v : Int) : i64s (xs.set i v) = (i64s xs).set i (I v) := by simp only [i64s, List.map_set]
theorem rep_set (n m : Nat) : (List.replicate n (I (-1))).set m (I 0) = i64s ((List.replicate n (-1)).set m 0) := by rw [i64s_set]; simp [i64s]
theorem le_del {h0 H : AH} {b : Nat} (h : h0.le H) (hb : h0.blk b = none) : h0.le (H.del b) := by
  refine ⟨fun c cs e => ?_, h.tok, h.mp⟩
  have hcb : c ≠ b := fun hh => by subst hh; rw [hb] at e; cases e
  simp only [AH.del]
  rw [if_neg hcb]
  exact h.blk c cs e
set_option maxHeartbeats 4000000 in
theorem r_precedence_evidence_steps (nl : Bool) (l : List Spm) (tl : Tail) (P : List T3) (hP : Pc l.length P) (hPl : P.length ≤ 50000) (hl24 : l.length ≤ 24) (m : Nat) (hm0 : m < l.length) (h : AH) :
    RCall Try.prog n_precedence_evidence_stepsW [.st [.sl nl l.length (sms l) tl, gl (trs P) P.length .unk], I m] h (.sl false l.length (i64s (far l.length P m)) .unk) := by
  refine RCall.of hm cF_precedence_evidence_stepsW (by simp [g_precedence_evidence_stepsW]) fun hw h' hl => ?_
  simp only [F_precedence_evidence_stepsW, g_precedence_evidence_stepsW, go_sem, reduceIte, Nat.reduceEqDiff, Nat.reduceAdd, Nat.reduceMul, Nat.reduceSub, reduceCtorEq, Nat.reduceLeDiff, Nat.reduceLT, Int.reduceLT, Int.reduceLE, Int.reduceToNat, Int.reduceAdd, Int.reduceSub, Int.reduceNeg, Int.reduceMul, Int.reduceEq, ← Bool.decide_and, ← Bool.decide_or, ↓tq_n, ↓tq_e, ↓tq_r, ↓bq_n, ↓bq_e, ↓bq_r, ↓rq_n, ↓rq_r, ↓rq_e]
  refine CallS.mk (s_slices_Repeat (-1) false .full l.length (by omega) _) fun r H' hr => ?_
  obtain ⟨b5, hb5, rfl, rfl⟩ := hr
  have hmc : (m : Int) < (l.length : Int) := by omega
  have hm1 : (0 : Int) ≤ (m : Int) := by omega
  have hml : m + 1 ≤ (List.replicate l.length (I (-1))).length := by rw [List.length_replicate]; omega
  have hbr : 0 ≤ (m : Int) ∧ (m : Int) < l.length := ⟨hm1, hmc⟩
  simp only [hmc, hm1, hml, rep_set, F_precedence_evidence_stepsW, g_precedence_evidence_stepsW, go_sem, reduceIte, Nat.reduceEqDiff, Nat.reduceAdd, Nat.reduceMul, Nat.reduceSub, reduceCtorEq, Nat.reduceLeDiff, Nat.reduceLT, Int.reduceLT, Int.reduceLE, Int.reduceToNat, Int.reduceAdd, Int.reduceSub, Int.reduceNeg, Int.reduceMul, Int.reduceEq, ← Bool.decide_and, ← Bool.decide_or, ↓tq_n, ↓tq_e, ↓tq_r, ↓bq_n, ↓bq_e, ↓bq_r, ↓rq_n, ↓rq_r, ↓rq_e]
  have hstart := bq_start (n := l.length) (b := (m : Int)) hP hbr
  rw [Int.toNat_natCast] at hstart
  have hF0 : ((List.replicate l.length (-1 : Int)).set m 0).length = l.length := by simp
  obtain ⟨F0, hF0e⟩ : ∃ F0, F0 = (List.replicate l.length (-1 : Int)).set m 0 := ⟨_, rfl⟩
  rw [← hF0e] at hstart hF0 ⊢
  refine awp_loop (α := List Int × List Int × AV × AH) (fun p => [(2, .sptr [.sl nl l.length (sms l) tl, gl (trs P) P.length .unk]), (5, .msl b5 0 l.length (some l.length)), (6, p.2.2.1)]) (fun p => p.2.2.2) (fun p => BQ l.length P m p.1 p.2.1 ∧ Qv h' b5 p.2.2.1 p.2.1 p.2.2.2 ∧ p.2.2.2.blk b5 = some (i64s p.1) ∧ ngs p.1 + p.2.1.length ≤ 100) (fun p => ngs p.1 + p.2.1.length) (F0, [(m : Int)], .sl false 1 [I m] .full, h'.put b5 (i64s F0))
    ⟨hstart, ⟨AH.le_put (AH.le.refl _) hb5, by rw [AH.blk_put]; simp, .inl ⟨_, rfl, rfl⟩⟩, AH.blk_put _ _ _, by have : ngs F0 ≤ F0.length := List.countP_le_length; simp only [List.length_singleton]; omega⟩ (GStep.forget (by repeat' first | exact EnvLe.nil _ | refine EnvLe.cons (AV.le.of_eq rfl) ?_ | refine EnvLe.cons (AV.le.undef _) ?_ | refine EnvLe.cons AV.le.unk ?_) (by repeat' first | exact AH.le.refl _ | assumption | (refine AH.le_put ?_ (by first | assumption | exact (AH.blk_put_ne _ _ (by assumption)).trans (by assumption) | exact AH.none_put (by assumption) | exact AH.none_put (AH.none_put (by assumption)) | (simp only [AH.blk_setTok, AH.tok_put] at *; first | assumption | exact AH.none_put (by assumption)))) | (refine AH.le_setTok ?_ (by first | assumption | exact (AH.blk_put_ne _ _ (by assumption)).trans (by assumption) | exact AH.none_put (by assumption) | exact AH.none_put (AH.none_put (by assumption)) | (simp only [AH.blk_setTok, AH.tok_put] at *; first | assumption | exact AH.none_put (by assumption)))) | (refine AH.le_putM ?_ (by first | assumption | exact (AH.mp_putM_ne _ _ (by assumption)).trans (by assumption) | (simp only [AH.mp_put, AH.mp_setTok] at *; assumption))))) fun p hp => .of_vg hm ?_
  obtain ⟨f, qs, x, H⟩ := p
  obtain ⟨p1, p2, p3, p4⟩ := hp
  simp only at p1 p2 p3 p4 ⊢
  have hql := fun K => qv_len (K := K) p2
  obtain ⟨L, hL⟩ : ∃ L, L = qs.length := ⟨_, rfl⟩
  rw [← hL] at hql
  cases qs with
  | nil =>
    have hz : ¬ (0 : Int) < (L : Int) := by rw [hL]; simp
    simp only [hql, hz, F_precedence_evidence_stepsW, g_precedence_evidence_stepsW, go_sem, reduceIte, Nat.reduceEqDiff, Nat.reduceAdd, Nat.reduceMul, Nat.reduceSub, reduceCtorEq, Nat.reduceLeDiff, Nat.reduceLT, Int.reduceLT, Int.reduceLE, Int.reduceToNat, Int.reduceAdd, Int.reduceSub, Int.reduceNeg, Int.reduceMul, Int.reduceEq, ← Bool.decide_and, ← Bool.decide_or, ↓tq_n, ↓tq_e, ↓tq_r, ↓bq_n, ↓bq_e, ↓bq_r, ↓rq_n, ↓rq_r, ↓rq_e]
    have hfl : f.length = l.length := p1.st.len
    have e1 := dst_uniq hP (bq_end p1) (far_dst hP hbr) hbr
    have := RGh.fix (n := l.length) (cap := some l.length) p3 1
    rw [Nat.mul_one, List.take_of_length_le (by rw [i64s_len]; omega), e1] at this
    exact ⟨_, h', this.trans (RGh.forget (AV.le.refl _) (le_del p2.1 hb5)), rfl, rfl⟩
  | cons u rest =>
    have hz : (0 : Int) < (L : Int) := by rw [hL]; simp only [List.length_cons]; omega
    simp only [hql, hz, F_precedence_evidence_stepsW, g_precedence_evidence_stepsW, go_sem, reduceIte, Nat.reduceEqDiff, Nat.reduceAdd, Nat.reduceMul, Nat.reduceSub, reduceCtorEq, Nat.reduceLeDiff, Nat.reduceLT, Int.reduceLT, Int.reduceLE, Int.reduceToNat, Int.reduceAdd, Int.reduceSub, Int.reduceNeg, Int.reduceMul, Int.reduceEq, ← Bool.decide_and, ← Bool.decide_or, ↓tq_n, ↓tq_e, ↓tq_r, ↓bq_n, ↓bq_e, ↓bq_r, ↓rq_n, ↓rq_r, ↓rq_e]
    refine awp_loop (α := Nat × List Int × List Int × AV × AH) (fun p => [(2, .sptr [.sl nl l.length (sms l) tl, gl (trs P) P.length .unk]), (5, .msl b5 0 l.length (some l.length)), (6, p.2.2.2.1), (25, gl (trs P) P.length .unk), (26, I P.length), (27, I p.1)]) (fun p => p.2.2.2.2) (fun p => p.1 ≤ P.length ∧ BI l.length P m u p.1 (p.2.1, p.2.2.1) ∧ Qv h' b5 p.2.2.2.1 p.2.2.1 p.2.2.2.2 ∧ p.2.2.2.2.blk b5 = some (i64s p.2.1) ∧ ngs p.2.1 + p.2.2.1.length = ngs f + (u :: rest).length) (fun p => P.length - p.1) (0, f, u :: rest, x, H)
      ⟨Nat.zero_le _, ⟨⟨rest, rfl⟩, p1, fun i hi => absurd hi (Nat.not_lt_zero _)⟩, p2, p3, rfl⟩ (GStep.forget (by repeat' first | exact EnvLe.nil _ | refine EnvLe.cons (AV.le.of_eq rfl) ?_ | refine EnvLe.cons (AV.le.undef _) ?_ | refine EnvLe.cons AV.le.unk ?_) (by repeat' first | exact AH.le.refl _ | assumption | (refine AH.le_put ?_ (by first | assumption | exact (AH.blk_put_ne _ _ (by assumption)).trans (by assumption) | exact AH.none_put (by assumption) | exact AH.none_put (AH.none_put (by assumption)) | (simp only [AH.blk_setTok, AH.tok_put] at *; first | assumption | exact AH.none_put (by assumption)))) | (refine AH.le_setTok ?_ (by first | assumption | exact (AH.blk_put_ne _ _ (by assumption)).trans (by assumption) | exact AH.none_put (by assumption) | exact AH.none_put (AH.none_put (by assumption)) | (simp only [AH.blk_setTok, AH.tok_put] at *; first | assumption | exact AH.none_put (by assumption)))) | (refine AH.le_putM ?_ (by first | assumption | exact (AH.mp_putM_ne _ _ (by assumption)).trans (by assumption) | (simp only [AH.mp_put, AH.mp_setTok] at *; assumption))))) fun p hp => .of_vg hm ?_
    obtain ⟨j, f1, q1, x1, H1⟩ := p
    obtain ⟨r1, r2, r3, r4, r5⟩ := hp
    simp only at r1 r2 r3 r4 r5 ⊢
    have hfl : f1.length = l.length := r2.2.1.st.len
    by_cases h3 : j < P.length
    · have hc3 : (j : Int) < (P.length : Int) := by omega
      obtain ⟨s1, s2⟩ := bi_step hP h3 r2
      obtain ⟨⟨qr, hqr⟩, hbq, _⟩ := r2
      simp only at hqr hbq
      subst hqr
      have hpm : P.getD j d3 ∈ P := mem_getD h3
      obtain ⟨⟨z1, z2⟩, z3, z4⟩ := hP _ hpm
      obtain ⟨p, hpe⟩ : ∃ p, p = P.getD j d3 := ⟨_, rfl⟩
      have hdr := trs_drop h3
      rw [← hpe] at s1 s2 z1 z2 z3 z4 hdr
      have hix := fun K => qv_ix (K := K) r3 (kd := .i64) (j := 0)
      have hld := fun K => qv_ld (K := K) r3 (j := 0) (by simp)
      obtain ⟨L1, hL1⟩ : ∃ L1, L1 = (u :: qr).length := ⟨_, rfl⟩
      have hq0 : (0 : Int) < (L1 : Int) := by rw [hL1]; simp only [List.length_cons]; omega
      rw [← hL1] at hix
      have hg0 : (u :: qr).getD 0 0 = u := rfl
      rw [hg0] at hld
      have hi0 : (0 : Int).toNat = 0 := rfl
      rw [hi0] at hix
      obtain ⟨a, ha⟩ : ∃ a : Nat, p.2.1 = a := ⟨p.2.1.toNat, by omega⟩
      obtain ⟨c, hc⟩ : ∃ c : Nat, p.2.2 = c := ⟨p.2.2.toNat, by omega⟩
      have hal : a < f1.length := by omega
      have hcl : c < f1.length := by omega
      have hac : (a : Int) < (l.length : Int) := by omega
      have hcc : (c : Int) < (l.length : Int) := by omega
      have ha0 : (0 : Int) ≤ (a : Int) := by omega
      have hc0 : (0 : Int) ≤ (c : Int) := by omega
      have z00 : (0 : Int) ≤ 0 := Int.le_refl _
      have ea : fv f1 p.2.1 = f1.getD a 0 := by unfold fv; rw [ha, Int.toNat_natCast]
      have ec : fv f1 p.2.2 = f1.getD c 0 := by unfold fv; rw [hc, Int.toNat_natCast]
      by_cases c1 : (c : Int) = u
      case neg =>
        have e1 : bf1 u (f1, u :: qr) p = (f1, u :: qr) := by unfold bf1; rw [if_neg (fun hh => c1 (by rw [← hc]; exact hh.1))]
        rw [e1] at s1
        simp only [hc3, hdr, hc, hix, hld, hg0, hq0, z00, c1, F_precedence_evidence_stepsW, g_precedence_evidence_stepsW, go_sem, reduceIte, Nat.reduceEqDiff, Nat.reduceAdd, Nat.reduceMul, Nat.reduceSub, reduceCtorEq, Nat.reduceLeDiff, Nat.reduceLT, Int.reduceLT, Int.reduceLE, Int.reduceToNat, Int.reduceAdd, Int.reduceSub, Int.reduceNeg, Int.reduceMul, Int.reduceEq, ← Bool.decide_and, ← Bool.decide_or, ↓tq_n, ↓tq_e, ↓tq_r, ↓bq_n, ↓bq_e, ↓bq_r, ↓rq_n, ↓rq_r, ↓rq_e]
        exact ⟨by rw [inR64]; omega, (j + 1, f1, u :: qr, x1, H1), ⟨by simp only; omega, s1, r3, r4, r5⟩, by simp only; omega, (GStep.forget (by repeat' first | exact EnvLe.nil _ | refine EnvLe.cons (AV.le.of_eq rfl) ?_ | refine EnvLe.cons (AV.le.undef _) ?_ | refine EnvLe.cons AV.le.unk ?_) (by repeat' first | exact AH.le.refl _ | assumption | (refine AH.le_put ?_ (by first | assumption | exact (AH.blk_put_ne _ _ (by assumption)).trans (by assumption) | exact AH.none_put (by assumption) | exact AH.none_put (AH.none_put (by assumption)) | (simp only [AH.blk_setTok, AH.tok_put] at *; first | assumption | exact AH.none_put (by assumption)))) | (refine AH.le_setTok ?_ (by first | assumption | exact (AH.blk_put_ne _ _ (by assumption)).trans (by assumption) | exact AH.none_put (by assumption) | exact AH.none_put (AH.none_put (by assumption)) | (simp only [AH.blk_setTok, AH.tok_put] at *; first | assumption | exact AH.none_put (by assumption)))) | (refine AH.le_putM ?_ (by first | assumption | exact (AH.mp_putM_ne _ _ (by assumption)).trans (by assumption) | (simp only [AH.mp_put, AH.mp_setTok] at *; assumption)))))⟩
      subst c1
      by_cases c2 : f1.getD a 0 < 0
      case neg =>
        have e1 : bf1 (c : Int) (f1, (c : Int) :: qr) p = (f1, (c : Int) :: qr) := by unfold bf1; rw [if_neg (fun hh => c2 (by rw [← ea]; exact hh.2))]
        rw [e1] at s1
        simp only [hc3, hdr, hc, ha, hix, hld, hg0, hq0, z00, ha0, hac, r4, i64s_drop hal, c2, F_precedence_evidence_stepsW, g_precedence_evidence_stepsW, go_sem, reduceIte, Nat.reduceEqDiff, Nat.reduceAdd, Nat.reduceMul, Nat.reduceSub, reduceCtorEq, Nat.reduceLeDiff, Nat.reduceLT, Int.reduceLT, Int.reduceLE, Int.reduceToNat, Int.reduceAdd, Int.reduceSub, Int.reduceNeg, Int.reduceMul, Int.reduceEq, ← Bool.decide_and, ← Bool.decide_or, ↓tq_n, ↓tq_e, ↓tq_r, ↓bq_n, ↓bq_e, ↓bq_r, ↓rq_n, ↓rq_r, ↓rq_e]
        exact ⟨by rw [inR64]; omega, (j + 1, f1, (c : Int) :: qr, x1, H1), ⟨by simp only; omega, s1, r3, r4, r5⟩, by simp only; omega, (GStep.forget (by repeat' first | exact EnvLe.nil _ | refine EnvLe.cons (AV.le.of_eq rfl) ?_ | refine EnvLe.cons (AV.le.undef _) ?_ | refine EnvLe.cons AV.le.unk ?_) (by repeat' first | exact AH.le.refl _ | assumption | (refine AH.le_put ?_ (by first | assumption | exact (AH.blk_put_ne _ _ (by assumption)).trans (by assumption) | exact AH.none_put (by assumption) | exact AH.none_put (AH.none_put (by assumption)) | (simp only [AH.blk_setTok, AH.tok_put] at *; first | assumption | exact AH.none_put (by assumption)))) | (refine AH.le_setTok ?_ (by first | assumption | exact (AH.blk_put_ne _ _ (by assumption)).trans (by assumption) | exact AH.none_put (by assumption) | exact AH.none_put (AH.none_put (by assumption)) | (simp only [AH.blk_setTok, AH.tok_put] at *; first | assumption | exact AH.none_put (by assumption)))) | (refine AH.le_putM ?_ (by first | assumption | exact (AH.mp_putM_ne _ _ (by assumption)).trans (by assumption) | (simp only [AH.mp_put, AH.mp_setTok] at *; assumption)))))⟩
      have e1 : bf1 (c : Int) (f1, (c : Int) :: qr) p = (f1.set a (f1.getD c 0 + 1), ((c : Int) :: qr) ++ [(a : Int)]) := by
        unfold bf1
        simp only
        rw [if_pos ⟨hc, by rw [ea]; exact c2⟩, ha, Int.toNat_natCast, ec]
      rw [e1] at s1 s2
      simp only [hc3, hdr, hc, ha, hix, hld, hg0, hq0, z00, ha0, hac, hc0, hcc, r4, i64s_drop hal, i64s_drop hcl, c2, F_precedence_evidence_stepsW, g_precedence_evidence_stepsW, go_sem, reduceIte, Nat.reduceEqDiff, Nat.reduceAdd, Nat.reduceMul, Nat.reduceSub, reduceCtorEq, Nat.reduceLeDiff, Nat.reduceLT, Int.reduceLT, Int.reduceLE, Int.reduceToNat, Int.reduceAdd, Int.reduceSub, Int.reduceNeg, Int.reduceMul, Int.reduceEq, ← Bool.decide_and, ← Bool.decide_or, ↓tq_n, ↓tq_e, ↓tq_r, ↓bq_n, ↓bq_e, ↓bq_r, ↓rq_n, ↓rq_r, ↓rq_e]
      have hb1 := hbq.rng (c : Int) (by simp)
      have hb2 : 0 ≤ f1.getD c 0 := by have := hb1.2; unfold fv at this; rwa [Int.toNat_natCast] at this
      have hb3 := st_bd hbq.st hP (v := c) (by omega)
      refine ⟨by rw [inR64]; omega, by rw [i64s_len]; omega, (r3.put5 hb5 _).step (by simp) (by omega) fun x' H' hk hkb => ?_⟩
      rw [AH.blk_put, ← i64s_set] at hkb
      simp only [F_precedence_evidence_stepsW, g_precedence_evidence_stepsW, go_sem, reduceIte, Nat.reduceEqDiff, Nat.reduceAdd, Nat.reduceMul, Nat.reduceSub, reduceCtorEq, Nat.reduceLeDiff, Nat.reduceLT, Int.reduceLT, Int.reduceLE, Int.reduceToNat, Int.reduceAdd, Int.reduceSub, Int.reduceNeg, Int.reduceMul, Int.reduceEq, ← Bool.decide_and, ← Bool.decide_or, ↓tq_n, ↓tq_e, ↓tq_r, ↓bq_n, ↓bq_e, ↓bq_r, ↓rq_n, ↓rq_r, ↓rq_e]
      exact ⟨by rw [inR64]; omega, (j + 1, f1.set a (f1.getD c 0 + 1), ((c : Int) :: qr) ++ [(a : Int)], x', H'), ⟨by simp only; omega, s1, hk, hkb, by simp only [List.length_append, List.length_cons, List.length_nil] at s2 r5 ⊢; omega⟩, by simp only; omega, (GStep.forget (by repeat' first | exact EnvLe.nil _ | refine EnvLe.cons (AV.le.of_eq rfl) ?_ | refine EnvLe.cons (AV.le.undef _) ?_ | refine EnvLe.cons AV.le.unk ?_) (by repeat' first | exact AH.le.refl _ | assumption | (refine AH.le_put ?_ (by first | assumption | exact (AH.blk_put_ne _ _ (by assumption)).trans (by assumption) | exact AH.none_put (by assumption) | exact AH.none_put (AH.none_put (by assumption)) | (simp only [AH.blk_setTok, AH.tok_put] at *; first | assumption | exact AH.none_put (by assumption)))) | (refine AH.le_setTok ?_ (by first | assumption | exact (AH.blk_put_ne _ _ (by assumption)).trans (by assumption) | exact AH.none_put (by assumption) | exact AH.none_put (AH.none_put (by assumption)) | (simp only [AH.blk_setTok, AH.tok_put] at *; first | assumption | exact AH.none_put (by assumption)))) | (refine AH.le_putM ?_ (by first | assumption | exact (AH.mp_putM_ne _ _ (by assumption)).trans (by assumption) | (simp only [AH.mp_put, AH.mp_setTok] at *; assumption)))))⟩
    have h3 : j = P.length := by omega
    subst h3
    obtain ⟨qr, hqr⟩ := r2.1
    simp only at hqr
    subst hqr
    have hpop := bi_pop r2
    have hln : (u :: qr).length = qr.length + 1 := rfl
    rcases r3.pop with ⟨rfl, rfl⟩ | ⟨b, q, off, rfl, e2, e3, e4⟩
    · simp only [F_precedence_evidence_stepsW, g_precedence_evidence_stepsW, go_sem, reduceIte, Nat.reduceEqDiff, Nat.reduceAdd, Nat.reduceMul, Nat.reduceSub, reduceCtorEq, Nat.reduceLeDiff, Nat.reduceLT, Int.reduceLT, Int.reduceLE, Int.reduceToNat, Int.reduceAdd, Int.reduceSub, Int.reduceNeg, Int.reduceMul, Int.reduceEq, ← Bool.decide_and, ← Bool.decide_or, ↓tq_n, ↓tq_e, ↓tq_r, ↓bq_n, ↓bq_e, ↓bq_r, ↓rq_n, ↓rq_r, ↓rq_e]
      exact ⟨(f1, [], _, H1), ⟨hpop, ⟨r3.1, r3.2.1, .inr (.inl ⟨rfl, _, _, rfl⟩)⟩, r4, by simp only [List.length_cons, List.length_nil] at r5 p4 ⊢; omega⟩, by simp only [List.length_cons, List.length_nil] at r5 ⊢; omega, (GStep.forget (by repeat' first | exact EnvLe.nil _ | refine EnvLe.cons (AV.le.of_eq rfl) ?_ | refine EnvLe.cons (AV.le.undef _) ?_ | refine EnvLe.cons AV.le.unk ?_) (by repeat' first | exact AH.le.refl _ | assumption | (refine AH.le_put ?_ (by first | assumption | exact (AH.blk_put_ne _ _ (by assumption)).trans (by assumption) | exact AH.none_put (by assumption) | exact AH.none_put (AH.none_put (by assumption)) | (simp only [AH.blk_setTok, AH.tok_put] at *; first | assumption | exact AH.none_put (by assumption)))) | (refine AH.le_setTok ?_ (by first | assumption | exact (AH.blk_put_ne _ _ (by assumption)).trans (by assumption) | exact AH.none_put (by assumption) | exact AH.none_put (AH.none_put (by assumption)) | (simp only [AH.blk_setTok, AH.tok_put] at *; first | assumption | exact AH.none_put (by assumption)))) | (refine AH.le_putM ?_ (by first | assumption | exact (AH.mp_putM_ne _ _ (by assumption)).trans (by assumption) | (simp only [AH.mp_put, AH.mp_setTok] at *; assumption)))))⟩
    · by_cases hq1 : 1 < q
      · simp only [mslCut_lt hq1, F_precedence_evidence_stepsW, g_precedence_evidence_stepsW, go_sem, reduceIte, Nat.reduceEqDiff, Nat.reduceAdd, Nat.reduceMul, Nat.reduceSub, reduceCtorEq, Nat.reduceLeDiff, Nat.reduceLT, Int.reduceLT, Int.reduceLE, Int.reduceToNat, Int.reduceAdd, Int.reduceSub, Int.reduceNeg, Int.reduceMul, Int.reduceEq, ← Bool.decide_and, ← Bool.decide_or, ↓tq_n, ↓tq_e, ↓tq_r, ↓bq_n, ↓bq_e, ↓bq_r, ↓rq_n, ↓rq_r, ↓rq_e]
        exact ⟨by simpa using e2, (f1, qr, _, H1), ⟨hpop, e3 hq1, r4, by simp only [List.length_cons] at r5 p4 ⊢; omega⟩, by simp only [List.length_cons] at r5 ⊢; omega, (GStep.forget (by repeat' first | exact EnvLe.nil _ | refine EnvLe.cons (AV.le.of_eq rfl) ?_ | refine EnvLe.cons (AV.le.undef _) ?_ | refine EnvLe.cons AV.le.unk ?_) (by repeat' first | exact AH.le.refl _ | assumption | (refine AH.le_put ?_ (by first | assumption | exact (AH.blk_put_ne _ _ (by assumption)).trans (by assumption) | exact AH.none_put (by assumption) | exact AH.none_put (AH.none_put (by assumption)) | (simp only [AH.blk_setTok, AH.tok_put] at *; first | assumption | exact AH.none_put (by assumption)))) | (refine AH.le_setTok ?_ (by first | assumption | exact (AH.blk_put_ne _ _ (by assumption)).trans (by assumption) | exact AH.none_put (by assumption) | exact AH.none_put (AH.none_put (by assumption)) | (simp only [AH.blk_setTok, AH.tok_put] at *; first | assumption | exact AH.none_put (by assumption)))) | (refine AH.le_putM ?_ (by first | assumption | exact (AH.mp_putM_ne _ _ (by assumption)).trans (by assumption) | (simp only [AH.mp_put, AH.mp_setTok] at *; assumption)))))⟩
      · have := e4 hq1
        subst this
        simp only [mslCut_end (show 1 ≠ 0 by decide) hq1, F_precedence_evidence_stepsW, g_precedence_evidence_stepsW, go_sem, reduceIte, Nat.reduceEqDiff, Nat.reduceAdd, Nat.reduceMul, Nat.reduceSub, reduceCtorEq, Nat.reduceLeDiff, Nat.reduceLT, Int.reduceLT, Int.reduceLE, Int.reduceToNat, Int.reduceAdd, Int.reduceSub, Int.reduceNeg, Int.reduceMul, Int.reduceEq, ← Bool.decide_and, ← Bool.decide_or, ↓tq_n, ↓tq_e, ↓tq_r, ↓bq_n, ↓bq_e, ↓bq_r, ↓rq_n, ↓rq_r, ↓rq_e]
        exact ⟨by simpa using e2, (f1, [], _, H1), ⟨hpop, ⟨r3.1, r3.2.1, .inr (.inl ⟨rfl, _, _, rfl⟩)⟩, r4, by simp only [List.length_cons, List.length_nil] at r5 p4 ⊢; omega⟩, by simp only [List.length_cons, List.length_nil] at r5 ⊢; omega, (GStep.forget (by repeat' first | exact EnvLe.nil _ | refine EnvLe.cons (AV.le.of_eq rfl) ?_ | refine EnvLe.cons (AV.le.undef _) ?_ | refine EnvLe.cons AV.le.unk ?_) (by repeat' first | exact AH.le.refl _ | assumption | (refine AH.le_put ?_ (by first | assumption | exact (AH.blk_put_ne _ _ (by assumption)).trans (by assumption) | exact AH.none_put (by assumption) | exact AH.none_put (AH.none_put (by assumption)) | (simp only [AH.blk_setTok, AH.tok_put] at *; first | assumption | exact AH.none_put (by assumption)))) | (refine AH.le_setTok ?_ (by first | assumption | exact (AH.blk_put_ne _ _ (by assumption)).trans (by assumption) | exact AH.none_put (by assumption) | exact AH.none_put (AH.none_put (by assumption)) | (simp only [AH.blk_setTok, AH.tok_put] at *; first | assumption | exact AH.none_put (by assumption)))) | (refine AH.le_putM ?_ (by first | assumption | exact (AH.mp_putM_ne _ _ (by assumption)).trans (by assumption) | (simp only [AH.mp_put, AH.mp_setTok] at *; assumption)))))⟩
end Go.Proofs.Ytndcbompcnlhmaa
