/- Ledgers as lists: calls without error may be made in any order. No condition. -/
import Derived.Test.YtcnmodnafnadlaaD7
namespace Go.Proofs.Ytcnmodnafnadlaa
open Go Go.Abs
set_option linter.unusedSimpArgs false
set_option linter.unusedVariables false
set_option maxRecDepth 20000

/-- What a call without error does. -/
structure Goes (t : St) (o : Op) (u : St) : Prop where
  m1 : ∀ d, d ∈ u.1 ↔ d ∈ t.1 ∨ (o.back = false ∧ d = o.d)
  m2 : ∀ m, m ∈ u.2 ↔ m ∈ t.2 ∨ (o.back = true ∧ m = o.m)
theorem mk_goes {M : List Dec} {d : Dec} (h : (mkL M d).1 = 0) : dcOK d ∧ ∀ x, x ∈ (mkL M d).2 ↔ x ∈ M ∨ x = d := by
  unfold mkL at *
  by_cases c : dcOK d
  case neg => rw [if_neg c] at h; cases h
  rw [if_pos c] at h ⊢
  refine ⟨c, fun x => ?_⟩
  cases ho : M.find? fun x => decide (d.mk2 = x.mk2) with
  | some o =>
    rw [ho] at h
    simp only at h ⊢
    by_cases e : o = d
    · rw [if_pos e]
      have := (find_some ho).1
      rw [e] at this
      exact ⟨.inl, fun hh => hh.elim id fun e2 => by rw [e2]; exact this⟩
    · rw [if_neg e] at h; cases h
  | none =>
    rw [ho] at h
    simp only at h ⊢
    by_cases e : 200 ≤ M.length
    · rw [if_pos e] at h; cases h
    · rw [if_neg e]; simp
theorem wd_goes {W : List (Int × Int)} {m : Int × Int} (h : (wdL W m).1 = 0) : mkOK m ∧ ∀ x, x ∈ (wdL W m).2 ↔ x ∈ W ∨ x = m := by
  unfold wdL at *
  by_cases c : mkOK m
  case neg => rw [if_neg c] at h; cases h
  rw [if_pos c] at h ⊢
  refine ⟨c, fun x => ?_⟩
  by_cases e : m ∈ W
  · rw [if_pos e]
    exact ⟨.inl, fun hh => hh.elim id fun e2 => by rw [e2]; exact e⟩
  · rw [if_neg e] at h ⊢
    by_cases e2 : 200 ≤ W.length
    · rw [if_pos e2] at h; cases h
    · rw [if_neg e2]; simp
def opOK (o : Op) : Prop := (o.back = false → dcOK o.d) ∧ (o.back = true → mkOK o.m)
theorem do_goes {t : St} {o : Op} (h : (doA t o).1 = 0) : opOK o ∧ Goes t o (doA t o).2 := by
  obtain ⟨back, d, m⟩ := o
  unfold doA at *
  cases back with
  | true =>
    simp only [if_true] at h ⊢
    have := wd_goes h
    exact ⟨⟨fun hh => (by cases hh), fun _ => this.1⟩, ⟨fun x => by simp, fun x => by rw [this.2]; simp⟩⟩
  | false =>
    simp only [Bool.false_eq_true, if_false] at h ⊢
    have := mk_goes h
    exact ⟨⟨fun _ => this.1, fun hh => (by cases hh)⟩, ⟨fun x => by rw [this.2]; simp, fun x => by simp⟩⟩
/-- What lies in a ledger after calls without error. -/
theorem fine_mem (l : List Op) : ∀ {s : St}, fineA s l = true → (∀ o ∈ l, opOK o) ∧ (∀ d, d ∈ (runA s l).1 ↔ d ∈ s.1 ∨ ∃ o ∈ l, o.back = false ∧ d = o.d) ∧ (∀ m, m ∈ (runA s l).2 ↔ m ∈ s.2 ∨ ∃ o ∈ l, o.back = true ∧ m = o.m) := by
  induction l with
  | nil => intro s _; refine ⟨fun o h => (by cases h), fun d => by simp [runA], fun m => by simp [runA]⟩
  | cons o l ih =>
    intro s h
    obtain ⟨h1, h2⟩ := Bool.and_eq_true_iff.1 h
    obtain ⟨k1, k2⟩ := do_goes (of_decide_eq_true h1)
    obtain ⟨a1, a2, a3⟩ := ih h2
    have e : runA s (o :: l) = runA (doA s o).2 l := rfl
    rw [e]
    refine ⟨fun x hx => ?_, fun d => ?_, fun m => ?_⟩
    · rcases List.mem_cons.1 hx with rfl | hx
      · exact k1
      · exact a1 x hx
    · rw [a2, k2.m1]
      constructor
      · rintro ((c | c) | ⟨x, c1, c2⟩)
        · exact .inl c
        · exact .inr ⟨o, by simp, c⟩
        · exact .inr ⟨x, by simp [c1], c2⟩
      · rintro (c | ⟨x, c1, c2⟩)
        · exact .inl (.inl c)
        · rcases List.mem_cons.1 c1 with rfl | c1
          · exact .inl (.inr c2)
          · exact .inr ⟨x, c1, c2⟩
    · rw [a3, k2.m2]
      constructor
      · rintro ((c | c) | ⟨x, c1, c2⟩)
        · exact .inl c
        · exact .inr ⟨o, by simp, c⟩
        · exact .inr ⟨x, by simp [c1], c2⟩
      · rintro (c | ⟨x, c1, c2⟩)
        · exact .inl (.inl c)
        · rcases List.mem_cons.1 c1 with rfl | c1
          · exact .inl (.inr c2)
          · exact .inr ⟨x, c1, c2⟩
theorem dst_nodup {M : List Dec} (h : Dst M) : M.Nodup := List.nodup_iff_pairwise_ne.2 (h.imp fun {a b} hh (e : a = b) => hh (by rw [e]))
theorem len_lt_of {α : Type} {l1 l2 : List α} {x : α} (h1 : l1.Nodup) (h : ∀ y ∈ l1, y ∈ l2) (hx : x ∈ l2) (hn : x ∉ l1) : l1.length < l2.length := by
  have := len_of_sub (l1 := x :: l1) (l2 := l2) (List.nodup_cons.2 ⟨hn, h1⟩) fun y hy => by
    rcases List.mem_cons.1 hy with rfl | hy
    · exact hx
    · exact h y hy
  simp only [List.length_cons] at this
  omega
/-- Within a ledger, a call of it goes well. -/
theorem step_ok {F t : St} (hF : OKs F) (ht : OKs t) (s1 : ∀ d ∈ t.1, d ∈ F.1) (s2 : ∀ m ∈ t.2, m ∈ F.2) {o : Op} (ho : opOK o) (h1 : o.back = false → o.d ∈ F.1) (h2 : o.back = true → o.m ∈ F.2) : (doA t o).1 = 0 := by
  obtain ⟨back, d, m⟩ := o
  unfold doA
  cases back with
  | true =>
    have c := ho.2 rfl
    have f := h2 rfl
    simp only at c f
    simp only [if_true]
    unfold wdL
    rw [if_pos c]
    by_cases e : m ∈ t.2
    · rw [if_pos e]
    · rw [if_neg e, if_neg]
      have := len_lt_of ht.nd s2 f e
      have := hF.few.2
      omega
  | false =>
    have c := ho.1 rfl
    have f := h1 rfl
    simp only at c f
    simp only [Bool.false_eq_true, if_false]
    unfold mkL
    rw [if_pos c]
    cases ho : t.1.find? fun x => decide (d.mk2 = x.mk2) with
    | some q =>
      obtain ⟨q1, q2⟩ := find_some ho
      have := dst_uniq hF.dst (s1 q q1) f q2
      simp only
      rw [if_pos this]
    | none =>
      have hn := find_none ho
      simp only
      rw [if_neg]
      have := len_lt_of (dst_nodup ht.dst) s1 f (fun hh => hn d hh rfl)
      have := hF.few.1
      omega
theorem sr_eq {s t : St} (hs : OKs s) (ht : OKs t) (h1 : ∀ d, d ∈ s.1 ↔ d ∈ t.1) (h2 : ∀ m, m ∈ s.2 ↔ m ∈ t.2) : srS s = srS t := by
  refine Prod.ext ?_ ?_
  · exact srtD_uniq ht.dst (srtD_asc hs.dst) fun x => mem_srtD.trans (h1 x)
  · exact srtM_uniq ht.nd (srtM_asc hs.nd) fun x => mem_srtM.trans (h2 x)
theorem st_eq {s t : St} (h : srS s = srS t) : stL s = stL t := by rw [← rsL_sr, ← rsL_sr, h]
theorem Led.other {h : AH} {la a1 a2 b1 b2 : Nat} {F : St} (k : Led h la a1 a2 F) (n1 : a1 ≠ b1) (n2 : a1 ≠ b2) (n3 : a2 ≠ b1) (n4 : a2 ≠ b2) (s : St) : Led (setL h b1 b2 s) la a1 a2 F :=
  ⟨k.blk, (AH.mp_putM_ne _ _ n2).trans ((AH.mp_putM_ne _ _ n1).trans k.m1), (AH.mp_putM_ne _ _ n4).trans ((AH.mp_putM_ne _ _ n3).trans k.m2), k.ne⟩
theorem Led.newA {h : AH} {la a1 a2 lb b1 b2 : Nat} {F : St} (k : Led h la a1 a2 F) (hb : h.blk lb = none) (h1 : h.mp b1 = none) (h2 : h.mp b2 = none) : Led (newA h lb b1 b2) la a1 a2 F := by
  have n1 : a1 ≠ b1 := fun e => by have := k.m1; rw [e, h1] at this; cases this
  have n2 : a1 ≠ b2 := fun e => by have := k.m1; rw [e, h2] at this; cases this
  have n3 : a2 ≠ b1 := fun e => by have := k.m2; rw [e, h1] at this; cases this
  have n4 : a2 ≠ b2 := fun e => by have := k.m2; rw [e, h2] at this; cases this
  unfold Go.Proofs.Ytcnmodnafnadlaa.newA
  exact ⟨(AH.blk_put_ne _ _ (k.fresh hb)).trans k.blk, (AH.mp_putM_ne _ _ n2).trans ((AH.mp_putM_ne _ _ n1).trans k.m1), (AH.mp_putM_ne _ _ n4).trans ((AH.mp_putM_ne _ _ n3).trans k.m2), k.ne⟩
theorem Led.map_ne {h : AH} {la a1 a2 b : Nat} {F : St} (k : Led h la a1 a2 F) (hb : h.mp b = none) : a1 ≠ b ∧ a2 ≠ b :=
  ⟨fun e => (by have := k.m1; rw [e, hb] at this; cases this), fun e => (by have := k.m2; rw [e, hb] at this; cases this)⟩
end Go.Proofs.Ytcnmodnafnadlaa
