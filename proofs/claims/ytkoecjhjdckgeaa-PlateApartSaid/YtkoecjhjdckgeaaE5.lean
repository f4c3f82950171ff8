/- Items, pages and spots among the arguments of a call. No condition. -/
import Derived.Test.YtkoecjhjdckgeaaE0
import Derived.Test.YtkoecjhjdckgeaaP1
namespace Go.Proofs.Ytkoecjhjdckgeaa
open Go Go.Abs

theorem trs_eq (l : List (Int × Int × Int)) : trs l = l.flatMap fun p => [AV.int .i64 p.1, AV.int .i64 p.2.1, AV.int .i64 p.2.2] := rfl
theorem has_trs {xs : List AV} (h : Has (.sl (.st [.int .i64, .int .i64, .int .i64])) xs) : ∃ nl, ∃ e : List (Int × Int × Int), xs = [.sl nl e.length (trs e) .unk] := has_rows (fun p : Int × Int × Int => [AV.int .i64 p.1, AV.int .i64 p.2.1, AV.int .i64 p.2.2]) (fun _ => has_trip) h
theorem has_sp {xs : List AV} (h : Has (.st [.int .i64, .int .i64, .int .i64, .int .i64]) xs) : ∃ x : Sp, xs = spc x := by
  obtain ⟨r1, c1, rfl, h1, h⟩ := has_cons h
  obtain ⟨r2, c2, rfl, h2, h⟩ := has_cons h
  obtain ⟨r3, c3, rfl, h3, h⟩ := has_cons h
  obtain ⟨r4, c4, rfl, h4, h⟩ := has_cons h
  obtain rfl := has_nil h
  obtain ⟨a, rfl, _⟩ := has_int h1
  obtain ⟨b, rfl, _⟩ := has_int h2
  obtain ⟨c, rfl, _⟩ := has_int h3
  obtain ⟨d, rfl, _⟩ := has_int h4
  exact ⟨(a, b, c, d), rfl⟩
theorem has_sps {xs : List AV} (h : Has (.sl (.st [.int .i64, .int .i64, .int .i64, .int .i64])) xs) : ∃ nl, ∃ e : List Sp, xs = [.sl nl e.length (sps e) .unk] := has_rows spc (fun _ => has_sp) h
/-- An array of five short numbers. -/
def a5c (z : Int × Int × Int × Int × Int) : List AV := [.int .i16 z.1, .int .i16 z.2.1, .int .i16 z.2.2.1, .int .i16 z.2.2.2.1, .int .i16 z.2.2.2.2]
theorem has_a5 {xs : List AV} (h : Has (.st (List.replicate 5 (.int .i16))) xs) : ∃ z, xs = a5c z := by
  obtain ⟨r1, c1, rfl, h1, h⟩ := has_cons (Ts := List.replicate 4 (.int .i16)) h
  obtain ⟨r2, c2, rfl, h2, h⟩ := has_cons (Ts := List.replicate 3 (.int .i16)) h
  obtain ⟨r3, c3, rfl, h3, h⟩ := has_cons (Ts := List.replicate 2 (.int .i16)) h
  obtain ⟨r4, c4, rfl, h4, h⟩ := has_cons (Ts := List.replicate 1 (.int .i16)) h
  obtain ⟨r5, c5, rfl, h5, h⟩ := has_cons (Ts := List.replicate 0 (.int .i16)) h
  obtain rfl := has_nil h
  obtain ⟨a, rfl, _⟩ := has_int h1
  obtain ⟨b, rfl, _⟩ := has_int h2
  obtain ⟨c, rfl, _⟩ := has_int h3
  obtain ⟨d, rfl, _⟩ := has_int h4
  obtain ⟨e, rfl, _⟩ := has_int h5
  exact ⟨(a, b, c, d, e), rfl⟩
theorem okWide_arr {P : Program} {w : World} {r : Reach} {base : Nat} {t e : TypeId} {v : Value} {n : Nat} (ht : P.underlying t = some (.array n e)) (h : Value.okWide P w r base t v) : ∃ cs, v = .agg cs ∧ cs.size = P.cellsOf t := by
  simp only [Value.okWide, ht] at h
  obtain ⟨cs, h1, h2, _⟩ := h
  exact ⟨cs, h1, h2⟩
end Go.Proofs.Ytkoecjhjdckgeaa
