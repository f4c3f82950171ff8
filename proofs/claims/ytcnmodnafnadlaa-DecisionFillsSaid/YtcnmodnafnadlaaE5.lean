/- Lists of calls of a ledger, and decisions, among the arguments of a call. No condition. -/
import Derived.Test.YtcnmodnafnadlaaE0
import Derived.Test.YtcnmodnafnadlaaD4
namespace Go.Proofs.Ytcnmodnafnadlaa
open Go Go.Abs

theorem has_dec {xs : List AV} (h : Has (.st [.int .i64, .int .i64, .int .i64, .int .i64, .int .i64]) xs) : ∃ x : Dec, xs = x.cs := by
  obtain ⟨r1, c1, rfl, h1, h⟩ := has_cons h
  obtain ⟨r2, c2, rfl, h2, h⟩ := has_cons h
  obtain ⟨r3, c3, rfl, h3, h⟩ := has_cons h
  obtain ⟨r4, c4, rfl, h4, h⟩ := has_cons h
  obtain ⟨r5, c5, rfl, h5, h⟩ := has_cons h
  obtain rfl := has_nil h
  obtain ⟨a1, rfl, _⟩ := has_int h1
  obtain ⟨a2, rfl, _⟩ := has_int h2
  obtain ⟨a3, rfl, _⟩ := has_int h3
  obtain ⟨a4, rfl, _⟩ := has_int h4
  obtain ⟨a5, rfl, _⟩ := has_int h5
  exact ⟨⟨a1, a2, a3, a4, a5⟩, rfl⟩
theorem has_op {xs : List AV} (h : Has (.st [.bool, .st [.int .i64, .int .i64, .int .i64, .int .i64, .int .i64], .st [.int .i64, .int .i64]]) xs) : ∃ x : Op, xs = x.cs := by
  obtain ⟨r1, c1, rfl, h1, h⟩ := has_cons h
  obtain ⟨r2, c2, rfl, h2, h⟩ := has_cons h
  obtain ⟨r3, c3, rfl, h3, h⟩ := has_cons h
  obtain rfl := has_nil h
  obtain ⟨b, rfl⟩ := has_bool h1
  obtain ⟨d, rfl⟩ := has_dec h2
  obtain ⟨m, rfl⟩ := has_pair h3
  exact ⟨⟨b, d, m⟩, rfl⟩
theorem has_ops {xs : List AV} (h : Has (.sl (.st [.bool, .st [.int .i64, .int .i64, .int .i64, .int .i64, .int .i64], .st [.int .i64, .int .i64]])) xs) : ∃ nl, ∃ e : List Op, xs = [.sl nl e.length (ops e) .unk] := has_rows Op.cs (fun _ => has_op) h
end Go.Proofs.Ytcnmodnafnadlaa
