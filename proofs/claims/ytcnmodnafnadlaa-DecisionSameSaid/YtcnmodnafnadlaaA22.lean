/- Lists of numbers that are read, whether they are fixed or may be written; lists that grow and may be written. No condition. -/
import Derived.Test.YtcnmodnafnadlaaA21
namespace Go.Abs
open Go
set_option linter.unusedSimpArgs false
set_option linter.unusedVariables false

/-- A list of numbers that can be read. -/
def Rd (h : AH) (x : AV) (xs : List Int) : Prop := (∃ nl tl, x = .sl nl xs.length (i64s xs) tl) ∨ ∃ b cap rest, x = .msl b 0 xs.length cap ∧ h.blk b = some (i64s xs ++ rest)
def adr (x : AV) (j : Nat) : AV := match x with
  | .sl _ _ cs _ => .sptr (cs.drop j)
  | .msl b off _ _ => .ptr b (off + j)
  | _ => .undef
theorem Rd.leB {h h' : AH} {x : AV} {xs : List Int} (k : Rd h x xs) (hl : AH.leB h h') : Rd h' x xs := by
  rcases k with k | ⟨b, cap, rest, rfl, hb⟩
  · exact .inl k
  · exact .inr ⟨b, cap, rest, rfl, hl.1 _ _ hb⟩
theorem Rd.put {h : AH} {x : AV} {xs : List Int} (k : Rd h x xs) {b : Nat} (hb : h.blk b = none) (cs : List AV) : Rd (h.put b cs) x xs := k.leB (AH.leB_put hb)
theorem Rd.sl (h : AH) (nl : Bool) (xs : List Int) (tl : Tail) : Rd h (.sl nl xs.length (i64s xs) tl) xs := .inl ⟨nl, tl, rfl⟩
section
variable {h : AH} {x : AV} {xs : List Int} {K : AV → Prop}
theorem rd_len (k : Rd h x xs) : LnA x (c := ⟨K⟩) = K (.int .i64 xs.length) := by
  rcases k with ⟨nl, tl, rfl⟩ | ⟨b, cap, rest, rfl, hb⟩ <;> rfl
theorem rd_ix (k : Rd h x xs) {kd : IntKind} {j : Int} : IxA 1 x (.int kd j) (c := ⟨K⟩) = (0 ≤ j ∧ j < xs.length ∧ K (adr x j.toNat)) := by
  rcases k with ⟨nl, tl, rfl⟩ | ⟨b, cap, rest, rfl, hb⟩
  · simp only [IxA, adr, Nat.mul_one]
  · simp only [IxA, adr, Nat.mul_one, Nat.zero_add]
theorem rd_ld (k : Rd h x xs) {j : Nat} (hj : j < xs.length) : LdA h none (adr x j) (c := ⟨K⟩) = K (.int .i64 (xs.getD j 0)) := by
  rcases k with ⟨nl, tl, rfl⟩ | ⟨b, cap, rest, rfl, hb⟩
  · simp only [adr, LdA, i64s_drop hj]
    simp [evLoad, AV.one]
  · have hd : (i64s xs ++ rest).drop (0 + j) = I (xs.getD j 0) :: ((i64s xs).drop (j + 1) ++ rest) := by
      rw [Nat.zero_add, List.drop_append_of_le_length (by rw [i64s_len]; omega), i64s_drop hj]; rfl
    simp only [adr, LdA, hb, hd, Option.some.injEq, exists_eq_left']
    simp [evLoad, AV.one]
end

/-- A list of numbers that grows and may be written. -/
def Gr (h0 : AH) (x : AV) (xs : List Int) (h : AH) : Prop := h0.le h ∧ ((xs = [] ∧ x = .sl true 0 [] .full) ∨ (xs ≠ [] ∧ ∃ b q, x = .msl b 0 xs.length (some q) ∧ xs.length ≤ q ∧ h.blk b = some (i64s xs ++ List.replicate (q - xs.length) .undef) ∧ h0.blk b = none))
theorem Gr.new (h : AH) : Gr h (.sl true 0 [] .full) [] h := ⟨AH.le.refl h, .inl ⟨rfl, rfl⟩⟩
theorem Gr.rd {h0 h : AH} {x : AV} {xs : List Int} (k : Gr h0 x xs h) : Rd h x xs := by
  rcases k with ⟨_, ⟨rfl, rfl⟩ | ⟨_, b, q, rfl, _, hb, _⟩⟩
  · exact .inl ⟨_, _, rfl⟩
  · exact .inr ⟨b, _, _, rfl, hb⟩
theorem Gr.step {h0 h : AH} {x : AV} {xs : List Int} (k : Gr h0 x xs h) (hl : xs.length ≤ 1000) {v : Int} {KS : AV → AH → Prop} (hk : ∀ x' h', Gr h0 x' (xs ++ [v]) h' → KS x' h') :
    AiS h 1 8 x (.sl false 1 [I v] .full) (c := ⟨KS⟩) := by
  rcases k with ⟨hle, ⟨rfl, rfl⟩ | ⟨hne, b, q, rfl, hq, hb, hn⟩⟩
  · rw [aiS_full, rg_sl]
    refine ⟨rfl, rfl, by omega, by omega, by omega, GrowG.mk fun b q hq hb => hk _ _ ⟨AH.le_put hle (AH.none_of_le hle hb), .inr ⟨by simp, b, q, rfl, hq, ?_, AH.none_of_le hle hb⟩⟩⟩
    rw [AH.blk_put]; simp [i64s]
  · rw [aiS_msl, rg_sl, hb, BlkG_some]
    have hlen : (i64s xs ++ List.replicate (q - xs.length) AV.undef).length = q := by rw [List.length_append, i64s_len, List.length_replicate]; omega
    refine ⟨rfl, by omega, by omega, by rw [hlen]; omega, fun h1 => ⟨by rw [hlen]; omega, hk _ _ ⟨AH.le_put hle hn, .inr ⟨by simp, b, q, by simp, by simpa using h1, ?_, hn⟩⟩⟩, fun h1 => GrowG.mk fun b' q' hq' hb' => hk _ _ ⟨AH.le_put hle (AH.none_of_le hle hb'), .inr ⟨by simp, b', q', by simp, by simpa using hq', ?_, AH.none_of_le hle hb'⟩⟩⟩
    · rw [AH.blk_put]
      congr 1
      rw [Nat.zero_add, Nat.mul_one, i64s_append, List.length_append, List.append_assoc]
      have : spl (i64s xs ++ List.replicate (q - xs.length) AV.undef) xs.length [I v] = i64s xs ++ (I v :: List.replicate (q - (xs.length + 1)) AV.undef) := by
        rw [spl_eq _ _ _ (by rw [hlen]; simp only [List.length_singleton]; omega)]
        have e1 : (i64s xs ++ List.replicate (q - xs.length) AV.undef).take xs.length = i64s xs := by
          rw [List.take_append_of_le_length (by rw [i64s_len]; exact Nat.le_refl _), List.take_of_length_le (by rw [i64s_len]; exact Nat.le_refl _)]
        have e2 : (i64s xs ++ List.replicate (q - xs.length) AV.undef).drop (xs.length + 1) = List.replicate (q - (xs.length + 1)) AV.undef := by
          rw [List.drop_append, List.drop_of_length_le (by rw [i64s_len]; omega), i64s_len, List.drop_replicate, List.nil_append]
          congr 1
          omega
        simp only [List.length_singleton, e1, e2]
        simp
      rw [this]
      simp [i64s]
    · rw [AH.blk_put]
      congr 1
      simp [i64s]

/-- One number is written. -/
def wr (h : AH) (x : AV) (j : Nat) (v : Int) : AH := match x with
  | .msl b _ _ _ => match h.blk b with
    | some cs => h.put b (cs.set j (I v))
    | none => h
  | _ => h
/-- Two lists that share nothing. -/
def dj (x y : AV) : Prop := ∀ b off n cap b' off' n' cap', x = .msl b off n cap → y = .msl b' off' n' cap' → b ≠ b'
theorem dj.symm {x y : AV} (h : dj x y) : dj y x := fun b o n c b' o' n' c' e e' hh => h b' o' n' c' b o n c e' e hh.symm
theorem gr_st {h0 h : AH} {x : AV} {xs : List Int} (k : Gr h0 x xs h) {j : Nat} (hj : j < xs.length) {v : Int} {KS : AV → AH → Prop} : StA h 1 (adr x j) [I v] (c := ⟨KS⟩) = KS .undef (wr h x j v) := by
  rcases k with ⟨hle, ⟨rfl, rfl⟩ | ⟨hne, b, q, rfl, hq, hb, hn⟩⟩
  · exact absurd hj (Nat.not_lt_zero _)
  · have hlen : (i64s xs ++ List.replicate (q - xs.length) AV.undef).length = q := by rw [List.length_append, i64s_len, List.length_replicate]; omega
    simp only [adr, stA_ptr, hb, BlkG_some, wr, spl, Nat.zero_add, List.length_singleton, hlen]
    have : j + 1 ≤ q := by omega
    simp [this, allOne, AV.one]
theorem Gr.wr {h0 h : AH} {x : AV} {xs : List Int} (k : Gr h0 x xs h) {j : Nat} (hj : j < xs.length) (v : Int) : Gr h0 x (xs.set j v) (Abs.wr h x j v) := by
  rcases k with ⟨hle, ⟨rfl, rfl⟩ | ⟨hne, b, q, rfl, hq, hb, hn⟩⟩
  · exact absurd hj (Nat.not_lt_zero _)
  · simp only [Abs.wr, hb]
    refine ⟨AH.le_put hle hn, .inr ⟨by simpa using hne, b, q, by simp, by simpa using hq, ?_, hn⟩⟩
    rw [AH.blk_put]
    congr 1
    rw [List.set_append_left _ _ (by rw [i64s_len]; exact hj)]
    simp [i64s, List.map_set]
theorem Gr.other {h0 h : AH} {x y : AV} {xs ys : List Int} (k : Gr h0 x xs h) (ky : Gr h0 y ys h) (hd : dj x y) {j : Nat} (v : Int) : Gr h0 y ys (Abs.wr h x j v) := by
  rcases k with ⟨hle, ⟨rfl, rfl⟩ | ⟨hne, b, q, rfl, hq, hb, hn⟩⟩
  · exact ky
  · simp only [Abs.wr, hb]
    rcases ky with ⟨_, ⟨rfl, rfl⟩ | ⟨hne', b', q', rfl, hq', hb', hn'⟩⟩
    · exact ⟨AH.le_put hle hn, .inl ⟨rfl, rfl⟩⟩
    · refine ⟨AH.le_put hle hn, .inr ⟨hne', b', q', rfl, hq', ?_, hn'⟩⟩
      rw [AH.blk_put_ne _ _ (fun hh => hd _ _ _ _ _ _ _ _ rfl rfl hh.symm)]
      exact hb'
/-- A new block does not matter. -/
theorem Gr.put {h0 h : AH} {x : AV} {xs : List Int} (k : Gr h0 x xs h) {b : Nat} (hb : h.blk b = none) (cs : List AV) : Gr h0 x xs (h.put b cs) := by
  rcases k with ⟨hle, k | ⟨hne, b', q, rfl, hq, hb', hn⟩⟩
  · exact ⟨AH.le_put hle (AH.none_of_le hle hb), .inl k⟩
  · refine ⟨AH.le_put hle (AH.none_of_le hle hb), .inr ⟨hne, b', q, rfl, hq, ?_, hn⟩⟩
    rw [AH.blk_put_ne _ _ (fun hh => by subst hh; rw [hb'] at hb; cases hb)]
    exact hb'
/-- A list that was made later. -/
theorem Gr.later {h0 h1 h : AH} {x y : AV} {xs ys : List Int} (k : Gr h0 x xs h1) (ky : Gr h1 y ys h) : Gr h0 x xs h ∧ Gr h0 y ys h ∧ dj x y := by
  have hle := ky.1
  have hle0 := k.1
  refine ⟨?_, ?_, ?_⟩
  · rcases k with ⟨hl, k | ⟨hne, b, q, rfl, hq, hb, hn⟩⟩
    · exact ⟨AH.le.trans hl hle, .inl k⟩
    · exact ⟨AH.le.trans hl hle, .inr ⟨hne, b, q, rfl, hq, hle.blk _ _ hb, hn⟩⟩
  · rcases ky with ⟨_, ky | ⟨hne, b, q, rfl, hq, hb, hn⟩⟩
    · exact ⟨AH.le.trans hle0 hle, .inl ky⟩
    · exact ⟨AH.le.trans hle0 hle, .inr ⟨hne, b, q, rfl, hq, hb, AH.none_of_le hle0 hn⟩⟩
  · rcases k with ⟨hl, ⟨_, rfl⟩ | ⟨hne, b, q, rfl, hq, hb, hn⟩⟩
    · intro _ _ _ _ _ _ _ _ e; cases e
    · rcases ky with ⟨_, ⟨_, rfl⟩ | ⟨hne', b', q', rfl, hq', hb', hn'⟩⟩
      · intro _ _ _ _ _ _ _ _ _ e; cases e
      · intro _ _ _ _ _ _ _ _ e e' hh
        cases e; cases e'; subst hh
        rw [hb] at hn'; cases hn'
/-- What was there before stays. -/
theorem Gr.old {h0 h : AH} {x : AV} {xs : List Int} (k : Gr h0 x xs h) {b : Nat} {cs : List AV} (hb : h0.blk b = some cs) : h.blk b = some cs := k.1.blk _ _ hb

theorem RGh.tupAt {as bs : List AV} {a a' : AV} {h h' : AH} (k : RGh a h a' h') : RGh (.tup (as ++ a :: bs)) h (.tup (as ++ a' :: bs)) h' := by
  intro s w0 own w v hs hv
  obtain ⟨vs, rfl, h1, h2⟩ := hv.tup_inv
  have hlt : as.length < vs.length := by rw [h1]; simp
  have hget : (as ++ a :: bs)[as.length]? = some a := by simp
  obtain ⟨s', l1, l2, l3⟩ := k s w0 own w vs[as.length] hs (h2 _ a _ hget (List.getElem?_eq_getElem hlt))
  refine ⟨s', l1, l2, .tup _ vs (by rw [h1]; simp) fun j x u hx hu => ?_⟩
  rw [List.getElem?_append] at hx
  split at hx
  · rename_i hj
    exact (h2 j x u (by rw [List.getElem?_append_left hj]; exact hx) hu).mono l1
  · rename_i hj
    by_cases hj2 : j = as.length
    · subst hj2
      simp at hx
      subst hx
      rw [List.getElem?_eq_getElem hlt] at hu
      cases hu
      exact l3
    · obtain ⟨d, hd⟩ : ∃ d, j - as.length = d + 1 := ⟨j - as.length - 1, by omega⟩
      refine (h2 j x u ?_ hu).mono l1
      rw [List.getElem?_append_right (by omega), hd, List.getElem?_cons_succ]
      rw [hd, List.getElem?_cons_succ] at hx
      exact hx
theorem Gr.ret {h0 h : AH} {x : AV} {xs : List Int} (k : Gr h0 x xs h) : ∃ h', RGh x h (asl xs) h' ∧ h0.le h' ∧ ∀ y ys, Gr h0 y ys h → dj x y → Gr h0 y ys h' := by
  rcases k with ⟨hle, ⟨rfl, rfl⟩ | ⟨hne, b, q, rfl, hq, hb, hn⟩⟩
  · exact ⟨h, .forget AV.le.unk (AH.le.refl h), hle, fun y ys k _ => k⟩
  · have hd : h0.le (h.del b) := ⟨fun x c e => by
      show (if x = b then none else h.blk x) = _
      rw [if_neg (fun hh => by subst hh; rw [hn] at e; cases e)]
      exact hle.blk x c e, hle.tok, hle.mp⟩
    refine ⟨h.del b, ?_, hd, fun y ys k hj => ?_⟩
    · have := RGh.fix (n := xs.length) (cap := some q) hb 1
      have ht : (i64s xs ++ List.replicate (q - xs.length) AV.undef).take (xs.length * 1) = i64s xs := by
        rw [Nat.mul_one, List.take_append_of_le_length (by rw [i64s_len]; exact Nat.le_refl _), List.take_of_length_le (by rw [i64s_len]; exact Nat.le_refl _)]
      rw [ht] at this
      have e : asl xs = .sl false xs.length (i64s xs) .unk := by simp [asl, hne]
      rw [e]; exact this
    · rcases k with ⟨hl, ⟨rfl, rfl⟩ | ⟨hne', b', q', rfl, hq', hb', hn'⟩⟩
      · exact ⟨hd, .inl ⟨rfl, rfl⟩⟩
      · refine ⟨hd, .inr ⟨hne', b', q', rfl, hq', ?_, hn'⟩⟩
        show (if b' = b then none else h.blk b') = _
        rw [if_neg (fun hh => hj _ _ _ _ _ _ _ _ rfl rfl hh.symm)]
        exact hb'
theorem gr_ret2 {h0 h : AH} {x y z : AV} {xs ys : List Int} (kx : Gr h0 x xs h) (ky : Gr h0 y ys h) (hd : dj x y) : RGh (.tup [x, y, z]) h (.tup [asl xs, asl ys, z]) h0 := by
  obtain ⟨h1, a1, a2, a3⟩ := kx.ret
  obtain ⟨h2, b1, b2, b3⟩ := (a3 y ys ky hd).ret
  exact ((RGh.tupAt (as := []) a1).trans (RGh.tupAt (as := [asl xs]) b1)).trans (RGh.forget (AV.le.refl _) b2)
end Go.Abs
