/- Weighted evidence among the arguments of a call. No condition. -/
import Derived.Test.YtemfmnjhhdeedaaE0
import Derived.Test.YtemfmnjhhdeedaaD29
namespace Go.Proofs.Ytemfmnjhhdeedaa
open Go Go.Abs

theorem has_cs {xs : List AV} (h : Has (.st [.int .i64, .sl (.st [.int .i64, .int .i64]), .sl (.int .i64)]) xs) : ∃ c : Cs, xs = c.cs := by
  obtain ⟨r1, c1, rfl, h1, h⟩ := has_cons h
  obtain ⟨r2, c2, rfl, h2, h⟩ := has_cons h
  obtain ⟨r3, c3, rfl, h3, h⟩ := has_cons h
  obtain rfl := has_nil h
  obtain ⟨a, rfl, _⟩ := has_int h1
  obtain ⟨nl, e, rfl⟩ := has_prs h2
  obtain ⟨nl2, w, rfl⟩ := has_ints h3
  exact ⟨⟨a, nl, e, .unk, nl2, w, .unk⟩, rfl⟩
end Go.Proofs.Ytemfmnjhhdeedaa
