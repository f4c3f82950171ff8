/- Hoards among the arguments of a call. No condition. -/
import Derived.Test.YtnekkkjedmlloaaE0
import Derived.Test.YtnekkkjedmlloaaD1
namespace Go.Proofs.Ytnekkkjedmlloaa
open Go Go.Abs

theorem has_hd {xs : List AV} (h : Has (.st [.int .i64, .sl (.st [.int .i64, .int .i64]), .st [.int .i64, .int .i64]]) xs) : ∃ x : Hd, xs = x.cs := by
  obtain ⟨r1, c1, rfl, h1, h⟩ := has_cons h
  obtain ⟨r2, c2, rfl, h2, h⟩ := has_cons h
  obtain ⟨r3, c3, rfl, h3, h⟩ := has_cons h
  obtain rfl := has_nil h
  obtain ⟨a, rfl, _⟩ := has_int h1
  obtain ⟨nl, e, rfl⟩ := has_prs h2
  obtain ⟨p, rfl⟩ := has_pair h3
  exact ⟨⟨a, nl, e, .unk, p⟩, rfl⟩
theorem has_hds {xs : List AV} (h : Has (.sl (.st [.int .i64, .sl (.st [.int .i64, .int .i64]), .st [.int .i64, .int .i64]])) xs) : ∃ nl, ∃ e : List Hd, xs = [.sl nl e.length (hds e) .unk] := has_rows Hd.cs (fun _ => has_hd) h
end Go.Proofs.Ytnekkkjedmlloaa
