/- A chronology among the arguments of a call. No condition. -/
import Derived.Test.YtcicklmlbdfneaaE0
import Derived.Test.YtcicklmlbdfneaaD3
namespace Go.Proofs.Ytcicklmlbdfneaa
open Go Go.Abs

theorem has_hd {xs : List AV} (h : Has (.st [.int .i64, .sl (.st [.int .i64, .int .i64]), .st [.int .i64, .int .i64]]) xs) : ∃ x : Hd, xs = x.cs := by
  obtain ⟨r1, c1, rfl, h1, h⟩ := has_cons h
  obtain ⟨r2, c2, rfl, h2, h⟩ := has_cons h
  obtain ⟨r3, c3, rfl, h3, h⟩ := has_cons h
  obtain rfl := has_nil h
  obtain ⟨a, rfl, _⟩ := has_int h1
  obtain ⟨nl, e, rfl⟩ := has_prs h2
  obtain ⟨p, rfl⟩ := has_pair h3
  exact ⟨⟨a, nl, e, .unk, p⟩, rfl⟩
theorem has_cr {xs : List AV} (h : Has (.st [.sl (.st [.int .i64, .int .i64]), .sl (.st [.int .i64, .sl (.st [.int .i64, .int .i64]), .st [.int .i64, .int .i64]]), .sl (.st [.int .i64, .int .i64, .int .i64])]) xs) : ∃ c : Cr, xs = c.cs := by
  obtain ⟨r1, c1, rfl, h1, h⟩ := has_cons h
  obtain ⟨r2, c2, rfl, h2, h⟩ := has_cons h
  obtain ⟨r3, c3, rfl, h3, h⟩ := has_cons h
  obtain rfl := has_nil h
  obtain ⟨nl1, e1, rfl⟩ := has_prs h1
  obtain ⟨nl2, e2, rfl⟩ := has_rows Hd.cs (fun _ => has_hd) h2
  obtain ⟨nl3, e3, rfl⟩ := has_rows (fun p : Int × Int × Int => [AV.int .i64 p.1, AV.int .i64 p.2.1, AV.int .i64 p.2.2]) (fun _ => has_trip) h3
  exact ⟨⟨nl1, e1, .unk, nl2, e2, .unk, nl3, e3, .unk⟩, rfl⟩
end Go.Proofs.Ytcicklmlbdfneaa
