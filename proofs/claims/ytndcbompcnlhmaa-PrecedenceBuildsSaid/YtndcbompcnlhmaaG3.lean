/- Sets of numbers kept as a map's keys. No condition. -/
import Derived.Test.YtndcbompcnlhmaaA23
namespace Go.Abs
open Go
set_option linter.unusedSimpArgs false
set_option linter.unusedVariables false

/-- The entries of a map that has some numbers. -/
def keys (l : List Int) : List (AV × AV) := l.map fun k => (AV.int .i64 k, AV.bool true)
theorem keys_nil : keys [] = [] := rfl
theorem find_keys (k : Int) : ∀ l : List Int, findAV none (.int .i64 k) (keys l) = some (if k ∈ l then some (.bool true) else none) := by
  intro l
  induction l with
  | nil => simp [keys, findAV, keyOK]
  | cons x l ih =>
    have e : keys (x :: l) = (AV.int .i64 x, AV.bool true) :: keys l := rfl
    rw [e, findAV]
    simp only [keyEq, and_self, if_true]
    by_cases h : k = x
    · simp [h]
    · have hd : decide (k = x) = false := decide_eq_false h
      rw [hd]
      simp only [ih, List.mem_cons, h, false_or]
theorem upd_keys {k : Int} : ∀ {l : List Int}, k ∉ l → updAV none (.int .i64 k) (.bool true) (keys l) = some (keys (l ++ [k])) := by
  intro l
  induction l with
  | nil => intro _; simp [keys, updAV, keyOK]
  | cons x l ih =>
    intro h
    have h1 : ¬ k = x := fun hh => h (by simp [hh])
    have h2 : k ∉ l := fun hh => h (by simp [hh])
    have e : keys (x :: l) = (AV.int .i64 x, AV.bool true) :: keys l := rfl
    rw [e, updAV]
    simp only [keyEq, and_self, if_true, decide_eq_false h1, ih h2]
    rfl
theorem upd_keys_in {k : Int} : ∀ {l : List Int}, k ∈ l → updAV none (.int .i64 k) (.bool true) (keys l) = some (keys l) := by
  intro l
  induction l with
  | nil => intro h; simp at h
  | cons x l ih =>
    intro h
    have e : keys (x :: l) = (AV.int .i64 x, AV.bool true) :: keys l := rfl
    rw [e, updAV]
    simp only [keyEq, and_self, if_true]
    by_cases hx : k = x
    · subst hx; simp
    · have h2 : k ∈ l := by simpa [hx] using h
      simp only [decide_eq_false hx, ih h2]
      rfl
end Go.Abs
