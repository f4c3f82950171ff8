/- Small laws of lists and numbers, for all seats. No condition. -/
import Derived.Test.YtcnmodnafnadlaaA20
namespace Go.Abs
open Go
set_option linter.unusedSimpArgs false
set_option linter.unusedVariables false

theorem getD_ext {xs ys : List Int} (h : xs.length = ys.length) (k : ∀ j, j < xs.length → xs.getD j 0 = ys.getD j 0) : xs = ys :=
  List.ext_getElem h fun j h1 h2 => by have := k j h1; simpa [List.getD, h1, h2] using this

theorem prs_ext {xs ys : List (Int × Int)} (h : xs.length = ys.length) (k : ∀ j, j < xs.length → xs.getD j (0, 0) = ys.getD j (0, 0)) : xs = ys :=
  List.ext_getElem h fun j h1 h2 => by have := k j h1; simpa [List.getD, h1, h2] using this

/-- The first index below n at which p holds, or -1. -/
def findI (p : Nat → Bool) : Nat → Int
  | 0 => -1
  | n + 1 => match findI p n with
    | .negSucc _ => if p n then (n : Int) else -1
    | .ofNat k => .ofNat k
theorem findI_neg {p : Nat → Bool} : ∀ {n : Nat}, (∀ j, j < n → p j = false) → findI p n = -1 := by
  intro n
  induction n with
  | zero => intro _; rfl
  | succ n ih => intro h; simp only [findI]; rw [ih (fun j hj => h j (by omega))]; rw [h n (by omega)]; rfl
theorem findI_at {p : Nat → Bool} {i : Nat} (hi : p i = true) (h : ∀ j, j < i → p j = false) : ∀ {n : Nat}, i < n → findI p n = i := by
  intro n
  induction n with
  | zero => intro hn; omega
  | succ n ih =>
    intro hn
    simp only [findI]
    by_cases hin : i < n
    · rw [ih hin]; rfl
    · have : i = n := by omega
      subst this
      rw [findI_neg h, hi]; rfl
theorem findI_nonneg {p : Nat → Bool} {n : Nat} : (0 ≤ findI p n) ↔ (List.range n).any p = true := by
  by_cases h : ∃ i, i < n ∧ p i = true
  · have hex : ∃ i, p i = true ∧ i < n := by obtain ⟨i, h1, h2⟩ := h; exact ⟨i, h2, h1⟩
    obtain ⟨i, h1, h2, h3⟩ : ∃ i, i < n ∧ p i = true ∧ ∀ j, j < i → p j = false := by
      clear h
      obtain ⟨i, hi⟩ := hex
      induction i using Nat.strongRecOn with
      | ind i ih =>
        by_cases hj : ∃ j, j < i ∧ p j = true
        · obtain ⟨j, h1, h2⟩ := hj
          exact ih j h1 ⟨h2, by omega⟩
        · exact ⟨i, hi.2, hi.1, fun j hj' => by
            cases hp : p j with
            | false => rfl
            | true => exact absurd ⟨j, hj', hp⟩ hj⟩
    rw [findI_at h2 h3 h1]
    simp only [List.any_eq_true, List.mem_range]
    exact ⟨fun _ => ⟨i, h1, h2⟩, fun _ => by omega⟩
  · have h' : ∀ j, j < n → p j = false := fun j hj => by
      cases hp : p j with
      | false => rfl
      | true => exact absurd ⟨j, hj, hp⟩ h
    rw [findI_neg h']
    simp only [List.any_eq_true, List.mem_range]
    exact ⟨fun hh => by omega, fun hh => absurd hh h⟩

theorem anyI (p : Nat → Bool) (n : Nat) : decide (0 ≤ findI p n) = (List.range n).any p := by
  rw [Bool.eq_iff_iff]; simp only [decide_eq_true_eq]; exact findI_nonneg
theorem getD_snoc (c : List Int) (x : Int) (i : Nat) : (c ++ [x]).getD i 0 = if i < c.length then c.getD i 0 else if i = c.length then x else 0 := by
  simp only [List.getD, List.getElem?_append]
  split
  · rfl
  · split
    · rename_i h; subst h; simp
    · rename_i h1 h2
      rw [List.getElem?_eq_none (by simp; omega)]; rfl
theorem AV.le.slice {nl : Bool} {n : Nat} {cs cs' : List AV} {tl : Tail} (hl : cs'.length = cs.length) (h : ∀ (j : Nat) (x y : AV), cs'[j]? = some x → cs[j]? = some y → AV.le x y) : AV.le (.sl nl n cs' .unk) (.sl nl n cs tl) := by
  intro s v hv
  cases hv with
  | sl _ _ _ _ a cap vs hlen hrel hfx hnil hnone hspot hcap hmax htl =>
    refine .sl nl n cs' .unk a cap vs (by omega) (fun j x v hx hv => ?_) hfx hnil hnone hspot hcap hmax trivial
    have hj : j < cs.length := by rw [← hl]; exact (List.getElem?_eq_some_iff.1 hx).1
    exact h j x _ hx (List.getElem?_eq_getElem hj) s v (hrel j _ v (List.getElem?_eq_getElem hj) hv)
theorem drop_of_get {l : List AV} {i : Nat} {x : AV} (h : l[i]? = some x) : l.drop i = x :: l.drop (i + 1) := by
  obtain ⟨h1, h2⟩ := List.getElem?_eq_some_iff.1 h
  rw [List.drop_eq_getElem_cons h1, h2]

theorem flat_rep (n : Nat) (x : AV) : (List.replicate n [x]).flatten = List.replicate n x := by
  induction n with
  | zero => rfl
  | succ n ih => rw [List.replicate_succ, List.flatten_cons, ih, List.replicate_succ]; rfl

theorem mem_getD_iff {e : List (Int × Int)} {p : Int × Int} : p ∈ e ↔ ∃ j, j < e.length ∧ e.getD j (0, 0) = p := by
  constructor
  · intro h
    obtain ⟨j, hj, hje⟩ := List.getElem_of_mem h
    exact ⟨j, hj, by simp [List.getD, hj, hje]⟩
  · rintro ⟨j, hj, rfl⟩; exact mem_getD hj
theorem findI_mem (v : Int) (e : List Int) : decide (0 ≤ findI (fun i => decide (v = e.getD i 0)) e.length) = decide (v ∈ e) := by
  rw [anyI, Bool.eq_iff_iff]
  simp only [List.any_eq_true, List.mem_range, decide_eq_true_eq]
  constructor
  · rintro ⟨i, hi, rfl⟩; exact mem_getD hi
  · intro h
    obtain ⟨i, hi, he⟩ := List.getElem_of_mem h
    exact ⟨i, hi, by simp [List.getD, hi, he]⟩
theorem any_all (s : List Int) (p : Int → Bool) : (List.range s.length).any (fun i => !p (s.getD i 0)) = !s.all p := by
  rw [Bool.eq_iff_iff]
  simp only [List.any_eq_true, List.mem_range, Bool.not_eq_true', List.all_eq_false, Bool.not_eq_true]
  constructor
  · rintro ⟨i, hi, h⟩; exact ⟨_, mem_getD hi, h⟩
  · rintro ⟨x, hx, h⟩
    obtain ⟨i, hi, rfl⟩ := List.getElem_of_mem hx
    exact ⟨i, hi, by simpa [List.getD, hi] using h⟩
theorem tmod_mod {a b : Int} (hb : 0 < b) : (if a.tmod b < 0 then a.tmod b + b else a.tmod b) = a % b := by
  rw [Int.tmod_eq_emod]
  have h1 := Int.emod_nonneg a (show b ≠ 0 by omega)
  have h2 := Int.emod_lt_of_pos a hb
  by_cases hd : 0 ≤ a ∨ b ∣ a
  · simp only [if_pos hd]; rw [if_neg (by omega)]; omega
  · rw [if_neg hd]
    have : ((b.natAbs : Nat) : Int) = b := by omega
    rw [this, if_pos (by omega)]; omega
theorem prs_take (e : List (Int × Int)) (n : Nat) : (prs e).take (n * 2) = prs (e.take n) := by
  induction e generalizing n with
  | nil => simp [prs]
  | cons p e ih =>
    have hp : prs (p :: e) = AV.int .i64 p.1 :: AV.int .i64 p.2 :: prs e := rfl
    cases n with
    | zero => simp [prs]
    | succ n =>
      rw [hp, show (n + 1) * 2 = n * 2 + 1 + 1 by omega, List.take_succ_cons, List.take_succ_cons, ih n]
      rfl
theorem prs_dropn (e : List (Int × Int)) (n : Nat) : (prs e).drop (n * 2) = prs (e.drop n) := by
  induction e generalizing n with
  | nil => simp [prs]
  | cons p e ih =>
    have hp : prs (p :: e) = AV.int .i64 p.1 :: AV.int .i64 p.2 :: prs e := rfl
    cases n with
    | zero => simp [prs]
    | succ n =>
      rw [hp, show (n + 1) * 2 = n * 2 + 1 + 1 by omega, List.drop_succ_cons, List.drop_succ_cons, ih n]
      rfl

def gsl (xs : List (Int × Int)) (tl : Tail) : AV := .sl (decide (xs.length = 0)) xs.length (prs xs) tl
theorem gsl_add (xs : List (Int × Int)) (p : Int × Int) (tl : Tail) : gsl (xs ++ [p]) tl = .sl (decide (xs.length = 0) && decide (xs.length + 1 = 0)) (xs.length + 1) (prs xs ++ [I p.1, I p.2]) tl := by
  simp [gsl, prs_append, prs_one]

theorem any_succ (p : Nat → Bool) (i : Nat) : (List.range (i + 1)).any p = ((List.range i).any p || p i) := by
  rw [List.range_succ, List.any_append]; simp
/-- A slice of numbers, nil exactly where it is empty. -/
def asl (l : List Int) : AV := .sl (decide (l = [])) l.length (i64s l) .unk
theorem lt_succ_cases {j i : Nat} (h : j < i + 1) : j < i ∨ j = i := Nat.lt_succ_iff_lt_or_eq.1 h
/-- Each one below i + 1. -/
theorem all_succ {p : Nat → Prop} {i : Nat} (h : ∀ j, j < i → p j) (hi : p i) : ∀ j, j < i + 1 → p j := fun j hj => by
  rcases lt_succ_cases hj with hj | rfl
  · exact h j hj
  · exact hi
/-- Triples of numbers. -/
def trs (e : List (Int × Int × Int)) : List AV := e.flatMap fun p => [AV.int .i64 p.1, AV.int .i64 p.2.1, AV.int .i64 p.2.2]
theorem trs_len (e : List (Int × Int × Int)) : (trs e).length = e.length * 3 := by
  induction e with
  | nil => rfl
  | cons p e ih =>
    have : trs (p :: e) = AV.int .i64 p.1 :: AV.int .i64 p.2.1 :: AV.int .i64 p.2.2 :: trs e := rfl
    rw [this]; simp only [List.length_cons, ih]; omega
theorem trs_drop {e : List (Int × Int × Int)} : ∀ {i : Nat}, i < e.length → (trs e).drop (i * 3) = AV.int .i64 (e.getD i (0, 0, 0)).1 :: AV.int .i64 (e.getD i (0, 0, 0)).2.1 :: AV.int .i64 (e.getD i (0, 0, 0)).2.2 :: (trs e).drop (i * 3 + 3) := by
  induction e with
  | nil => intro i h; simp at h
  | cons p e ih =>
    intro i h
    have : trs (p :: e) = AV.int .i64 p.1 :: AV.int .i64 p.2.1 :: AV.int .i64 p.2.2 :: trs e := rfl
    cases i with
    | zero => rfl
    | succ i =>
      rw [this, show (i + 1) * 3 = i * 3 + 1 + 1 + 1 by omega, List.drop_succ_cons, List.drop_succ_cons, List.drop_succ_cons]
      rw [ih (i := i) (by simpa using h)]
      simp
theorem trs_append (xs ys : List (Int × Int × Int)) : trs (xs ++ ys) = trs xs ++ trs ys := by simp [trs]
theorem trs_one (p : Int × Int × Int) : trs [p] = [AV.int .i64 p.1, AV.int .i64 p.2.1, AV.int .i64 p.2.2] := rfl
theorem inRu64 {n : Int} : InR .u64 n ↔ 0 ≤ n ∧ n ≤ 18446744073709551615 := by
  simp [InR, IntKind.min, IntKind.max, IntKind.signed, IntKind.bits]
theorem inRu32 {n : Int} : InR .u32 n ↔ 0 ≤ n ∧ n ≤ 4294967295 := by
  simp [InR, IntKind.min, IntKind.max, IntKind.signed, IntKind.bits]
theorem wrap_u64 {m : Nat} (h : m < 18446744073709551616) : IntKind.wrap .u64 (m : Int) = m := wrap_in (by rw [inRu64]; omega)
theorem wrap_u32 {m : Nat} (h : m < 4294967296) : IntKind.wrap .u32 (m : Int) = m := wrap_in (by rw [inRu32]; omega)
theorem ofInt32_nat (m : Nat) : BitVec.ofInt 32 (m : Int) = BitVec.ofNat 32 m := by simp
theorem bitu64_and {x y : Nat} (hx : x < 18446744073709551616) (hy : y < 18446744073709551616) : bitop .and .u64 (x : Int) (y : Int) = ((x &&& y : Nat) : Int) := by
  have h1 : x &&& y ≤ x := Nat.and_le_left
  show IntKind.wrap .u64 (((BitVec.ofInt 64 (x : Int) &&& BitVec.ofInt 64 (y : Int)).toNat : Nat) : Int) = _
  rw [ofInt_nat, ofInt_nat, BitVec.toNat_and, BitVec.toNat_ofNat, BitVec.toNat_ofNat, Nat.mod_eq_of_lt (by omega), Nat.mod_eq_of_lt (by omega), wrap_u64 (by omega)]
theorem bitu32_and {x y : Nat} (hx : x < 4294967296) (hy : y < 4294967296) : bitop .and .u32 (x : Int) (y : Int) = ((x &&& y : Nat) : Int) := by
  have h1 : x &&& y ≤ x := Nat.and_le_left
  show IntKind.wrap .u32 (((BitVec.ofInt 32 (x : Int) &&& BitVec.ofInt 32 (y : Int)).toNat : Nat) : Int) = _
  rw [ofInt32_nat, ofInt32_nat, BitVec.toNat_and, BitVec.toNat_ofNat, BitVec.toNat_ofNat, Nat.mod_eq_of_lt (by omega), Nat.mod_eq_of_lt (by omega), wrap_u32 (by omega)]
theorem bitu32_or {x y : Nat} (hx : x < 4294967296) (hy : y < 4294967296) : bitop .or .u32 (x : Int) (y : Int) = ((x ||| y : Nat) : Int) := by
  have h1 : x ||| y < 2 ^ 32 := Nat.or_lt_two_pow (by omega) (by omega)
  show IntKind.wrap .u32 (((BitVec.ofInt 32 (x : Int) ||| BitVec.ofInt 32 (y : Int)).toNat : Nat) : Int) = _
  rw [ofInt32_nat, ofInt32_nat, BitVec.toNat_or, BitVec.toNat_ofNat, BitVec.toNat_ofNat, Nat.mod_eq_of_lt (by omega), Nat.mod_eq_of_lt (by omega), wrap_u32 (by omega)]
end Go.Abs
