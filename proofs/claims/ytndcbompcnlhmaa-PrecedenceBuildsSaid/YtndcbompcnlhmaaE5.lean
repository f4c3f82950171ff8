/- Lists of specimens among the arguments of a call. No condition. -/
import Derived.Test.YtndcbompcnlhmaaE0
import Derived.Test.YtndcbompcnlhmaaD1
namespace Go.Proofs.Ytndcbompcnlhmaa
open Go Go.Abs

theorem has_spm {xs : List AV} (h : Has (.st [.int .i64, .int .i64, .int .i64, .int .i64, .int .i64, .int .i64, .int .i64]) xs) : ∃ x : Spm, xs = x.cs := by
  obtain ⟨r1, c1, rfl, h1, h⟩ := has_cons h
  obtain ⟨r2, c2, rfl, h2, h⟩ := has_cons h
  obtain ⟨r3, c3, rfl, h3, h⟩ := has_cons h
  obtain ⟨r4, c4, rfl, h4, h⟩ := has_cons h
  obtain ⟨r5, c5, rfl, h5, h⟩ := has_cons h
  obtain ⟨r6, c6, rfl, h6, h⟩ := has_cons h
  obtain ⟨r7, c7, rfl, h7, h⟩ := has_cons h
  obtain rfl := has_nil h
  obtain ⟨a1, rfl, _⟩ := has_int h1
  obtain ⟨a2, rfl, _⟩ := has_int h2
  obtain ⟨a3, rfl, _⟩ := has_int h3
  obtain ⟨a4, rfl, _⟩ := has_int h4
  obtain ⟨a5, rfl, _⟩ := has_int h5
  obtain ⟨a6, rfl, _⟩ := has_int h6
  obtain ⟨a7, rfl, _⟩ := has_int h7
  exact ⟨⟨a1, a2, a3, a4, a5, a6, a7⟩, rfl⟩
theorem has_sms {xs : List AV} (h : Has (.sl (.st [.int .i64, .int .i64, .int .i64, .int .i64, .int .i64, .int .i64, .int .i64])) xs) : ∃ nl, ∃ e : List Spm, xs = [.sl nl e.length (sms e) .unk] := has_rows Spm.cs (fun _ => has_spm) h
end Go.Proofs.Ytndcbompcnlhmaa
