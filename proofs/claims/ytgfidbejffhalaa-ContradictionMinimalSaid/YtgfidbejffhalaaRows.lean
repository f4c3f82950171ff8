/-
  No cell of these rows narrows 'for every input' (looked for: loops, veiled, ifaces, maps, wideKeys, modest, calm, conditions, laid).
  DERIVED. THE GIVEN ROWS OF THIS SEAT. 7 by the template 'for every input the law returns true; each argument reads behind the call as it read before'; 0 by the template 'total and deterministic' (their statements: YtgfidbejffhalaaTotals.lean).
  GIVEN WITH THE SEED: the statements are not yours to turn. If you find one false, say at which input.
  Laid BY PROGRAM, IN A SANDBOX (cutbox-rows.mjs): the forced cells as the released guide's own fill.sh prints them over the translation c930f82f815b3e70… (all of the seat's roots in one cut). By AI agents, Wed Nov 11 2026. No macro, syntax, notation, axiom, sorry.
-/
import Derived.Test.YtgfidbejffhalaaChecked
import GoSem.Claim
import GoSem.ClaimJoined
import GoSem.ClaimMapViews
import Derived.JoinedTies
import Derived.KernelRfl
namespace Go.Proofs.Ytgfidbejffhalaa
/- THE CELL 'sum', in the pinned program and in every row, IS THE sha256 OF THE DUMP (.gsa) THAT YtgfidbejffhalaaProg.lean LOADS. Nothing in Lean hashes anything: it is a label: what it is worth is what the hold of that sum in a sandbox is worth. -/
noncomputable def Try.pinned : Pinned := { name := "ytgfidbejffhalaa", sum := "c930f82f815b3e70daa9390c161f5c2c024c999c11db7c8fdcd5564536484b61", checked := Try.checked }
namespace Rows
def none {H : Type} : Left H := { results := [], args := [] }

/-- 'coinagelaw25.ContradictionSmallest': WHATEVER THE INPUT: true; the input reads as it did. -/
def contradictionSmallestSpec : ChangeSpec := { name := "contradictionSmallest", fn := fun _ => fun
  | [d1, d2] => { results := [.lit (.bool true)], args := [d1, d2] }
  | _ => none }
def contradictionSmallestRow : OpenClaim := { program := "ytgfidbejffhalaa", sum := "c930f82f815b3e70daa9390c161f5c2c024c999c11db7c8fdcd5564536484b61", func := "coinage/coinagelaw25.ContradictionSmallest", spec := "contradictionSmallest", unfollowed := true, recurses := true, apart := false }
def ContradictionSmallestSaid : Prop := contradictionSmallestRow.holds Try.pinned (OpenSpec.ofChange contradictionSmallestSpec)

/-- ITS FALSE NEIGHBOUR: 'it returns false'. Refute it at one input. -/
def contradictionSmallestWrong : ChangeSpec := { name := "contradictionSmallest", fn := fun _ => fun
  | [d1, d2] => { results := [.lit (.bool false)], args := [d1, d2] }
  | _ => none }
def ContradictionSmallestWrongFalsely : Prop := contradictionSmallestRow.holds Try.pinned (OpenSpec.ofChange contradictionSmallestWrong)

/-- 'coinagelaw25.ContradictionMinimal': WHATEVER THE INPUT: true; the input reads as it did. -/
def contradictionMinimalSpec : ChangeSpec := { name := "contradictionMinimal", fn := fun _ => fun
  | [d1, d2, d3] => { results := [.lit (.bool true)], args := [d1, d2, d3] }
  | _ => none }
def contradictionMinimalRow : OpenClaim := { program := "ytgfidbejffhalaa", sum := "c930f82f815b3e70daa9390c161f5c2c024c999c11db7c8fdcd5564536484b61", func := "coinage/coinagelaw25.ContradictionMinimal", spec := "contradictionMinimal", unfollowed := true, recurses := true, apart := false }
def ContradictionMinimalSaid : Prop := contradictionMinimalRow.holds Try.pinned (OpenSpec.ofChange contradictionMinimalSpec)

/-- ITS FALSE NEIGHBOUR: 'it returns false'. Refute it at one input. -/
def contradictionMinimalWrong : ChangeSpec := { name := "contradictionMinimal", fn := fun _ => fun
  | [d1, d2, d3] => { results := [.lit (.bool false)], args := [d1, d2, d3] }
  | _ => none }
def ContradictionMinimalWrongFalsely : Prop := contradictionMinimalRow.holds Try.pinned (OpenSpec.ofChange contradictionMinimalWrong)

/-- 'coinagelaw25.ContradictionSets': WHATEVER THE INPUT: true; the input reads as it did. -/
def contradictionSetsSpec : ChangeSpec := { name := "contradictionSets", fn := fun _ => fun
  | [d1, d2, d3] => { results := [.lit (.bool true)], args := [d1, d2, d3] }
  | _ => none }
def contradictionSetsRow : OpenClaim := { program := "ytgfidbejffhalaa", sum := "c930f82f815b3e70daa9390c161f5c2c024c999c11db7c8fdcd5564536484b61", func := "coinage/coinagelaw25.ContradictionSets", spec := "contradictionSets", unfollowed := true, recurses := true, apart := false }
def ContradictionSetsSaid : Prop := contradictionSetsRow.holds Try.pinned (OpenSpec.ofChange contradictionSetsSpec)

/-- ITS FALSE NEIGHBOUR: 'it returns false'. Refute it at one input. -/
def contradictionSetsWrong : ChangeSpec := { name := "contradictionSets", fn := fun _ => fun
  | [d1, d2, d3] => { results := [.lit (.bool false)], args := [d1, d2, d3] }
  | _ => none }
def ContradictionSetsWrongFalsely : Prop := contradictionSetsRow.holds Try.pinned (OpenSpec.ofChange contradictionSetsWrong)

/-- 'coinagelaw25.ContradictionGrows': WHATEVER THE INPUT: true; the input reads as it did. -/
def contradictionGrowsSpec : ChangeSpec := { name := "contradictionGrows", fn := fun _ => fun
  | [d1, d2, d3] => { results := [.lit (.bool true)], args := [d1, d2, d3] }
  | _ => none }
def contradictionGrowsRow : OpenClaim := { program := "ytgfidbejffhalaa", sum := "c930f82f815b3e70daa9390c161f5c2c024c999c11db7c8fdcd5564536484b61", func := "coinage/coinagelaw25.ContradictionGrows", spec := "contradictionGrows", unfollowed := true, recurses := true, apart := false }
def ContradictionGrowsSaid : Prop := contradictionGrowsRow.holds Try.pinned (OpenSpec.ofChange contradictionGrowsSpec)

/-- ITS FALSE NEIGHBOUR: 'it returns false'. Refute it at one input. -/
def contradictionGrowsWrong : ChangeSpec := { name := "contradictionGrows", fn := fun _ => fun
  | [d1, d2, d3] => { results := [.lit (.bool false)], args := [d1, d2, d3] }
  | _ => none }
def ContradictionGrowsWrongFalsely : Prop := contradictionGrowsRow.holds Try.pinned (OpenSpec.ofChange contradictionGrowsWrong)

/-- 'coinagelaw25.ContradictionBlames': WHATEVER THE INPUT: true; the input reads as it did. -/
def contradictionBlamesSpec : ChangeSpec := { name := "contradictionBlames", fn := fun _ => fun
  | [d1, d2, d3] => { results := [.lit (.bool true)], args := [d1, d2, d3] }
  | _ => none }
def contradictionBlamesRow : OpenClaim := { program := "ytgfidbejffhalaa", sum := "c930f82f815b3e70daa9390c161f5c2c024c999c11db7c8fdcd5564536484b61", func := "coinage/coinagelaw25.ContradictionBlames", spec := "contradictionBlames", unfollowed := true, recurses := true, apart := false }
def ContradictionBlamesSaid : Prop := contradictionBlamesRow.holds Try.pinned (OpenSpec.ofChange contradictionBlamesSpec)

/-- ITS FALSE NEIGHBOUR: 'it returns false'. Refute it at one input. -/
def contradictionBlamesWrong : ChangeSpec := { name := "contradictionBlames", fn := fun _ => fun
  | [d1, d2, d3] => { results := [.lit (.bool false)], args := [d1, d2, d3] }
  | _ => none }
def ContradictionBlamesWrongFalsely : Prop := contradictionBlamesRow.holds Try.pinned (OpenSpec.ofChange contradictionBlamesWrong)

/-- 'coinagelaw25.ContradictionLists': WHATEVER THE INPUT: true; the input reads as it did. -/
def contradictionListsSpec : ChangeSpec := { name := "contradictionLists", fn := fun _ => fun
  | [d1, d2] => { results := [.lit (.bool true)], args := [d1, d2] }
  | _ => none }
def contradictionListsRow : OpenClaim := { program := "ytgfidbejffhalaa", sum := "c930f82f815b3e70daa9390c161f5c2c024c999c11db7c8fdcd5564536484b61", func := "coinage/coinagelaw25.ContradictionLists", spec := "contradictionLists", unfollowed := true, recurses := true, apart := false }
def ContradictionListsSaid : Prop := contradictionListsRow.holds Try.pinned (OpenSpec.ofChange contradictionListsSpec)

/-- ITS FALSE NEIGHBOUR: 'it returns false'. Refute it at one input. -/
def contradictionListsWrong : ChangeSpec := { name := "contradictionLists", fn := fun _ => fun
  | [d1, d2] => { results := [.lit (.bool false)], args := [d1, d2] }
  | _ => none }
def ContradictionListsWrongFalsely : Prop := contradictionListsRow.holds Try.pinned (OpenSpec.ofChange contradictionListsWrong)

/-- 'coinagelaw25.ContradictionExtends': WHATEVER THE INPUT: true; the input reads as it did. -/
def contradictionExtendsSpec : ChangeSpec := { name := "contradictionExtends", fn := fun _ => fun
  | [d1, d2] => { results := [.lit (.bool true)], args := [d1, d2] }
  | _ => none }
def contradictionExtendsRow : OpenClaim := { program := "ytgfidbejffhalaa", sum := "c930f82f815b3e70daa9390c161f5c2c024c999c11db7c8fdcd5564536484b61", func := "coinage/coinagelaw25.ContradictionExtends", spec := "contradictionExtends", unfollowed := true, recurses := true, apart := false }
def ContradictionExtendsSaid : Prop := contradictionExtendsRow.holds Try.pinned (OpenSpec.ofChange contradictionExtendsSpec)

/-- ITS FALSE NEIGHBOUR: 'it returns false'. Refute it at one input. -/
def contradictionExtendsWrong : ChangeSpec := { name := "contradictionExtends", fn := fun _ => fun
  | [d1, d2] => { results := [.lit (.bool false)], args := [d1, d2] }
  | _ => none }
def ContradictionExtendsWrongFalsely : Prop := contradictionExtendsRow.holds Try.pinned (OpenSpec.ofChange contradictionExtendsWrong)

/- THE SECOND FORM. 'bulk': how many values and letters a reading holds, each counted each time it is reached (what is shared counts as often as it is met; a slice's spare places count too). A statement '..UptoSaid' is the law's where the arguments, and the package variables that the reading takes, are together of bulk at most 1048576: NARROWER than '..Said'. Prove '..Said' where nothing that the law and all that it calls make is longer than what came in: it says more and counts as full. Else prove '..UptoSaid'. A law counts once. -/
mutual
def uptoBulk {H : Type} : DataW H → Nat
  | .lit (.string bytes) => bytes.length + 1
  | .lit _ => 1
  | .nil => 1
  | .ptr d => uptoBulk d + 1
  | .slice elems spare => uptoBulkAll elems + uptoBulkAll spare + 1
  | .agg parts => uptoBulkAll parts + 1
  | .iface _ d => uptoBulk d + 1
  | .map entries => uptoBulkEntries entries + 1
  | .held _ => 1
def uptoBulkAll {H : Type} : List (DataW H) → Nat
  | [] => 0
  | d :: r => uptoBulk d + uptoBulkAll r
def uptoBulkEntries {H : Type} : List (Lit × DataW H) → Nat
  | [] => 0
  | x :: r => uptoBulkEntry x + uptoBulkEntries r
def uptoBulkEntry {H : Type} : Lit × DataW H → Nat
  | (.string bytes, d) => bytes.length + uptoBulk d + 1
  | (_, d) => uptoBulk d + 1
 end
def uptoSmall : (H : Type) → List (DataW H) → Bool := fun _ ds => decide (uptoBulkAll ds ≤ 1048576)
def OpenSpec.upto (s : _root_.Go.ChangeSpec) : _root_.Go.OpenSpec := { _root_.Go.OpenSpec.ofChange s with cond := some uptoSmall }

/-- 'coinagelaw25.ContradictionSmallest', WHERE WHAT IT READS IS OF BULK AT MOST 1048576: true; the input reads as it did. -/
def contradictionSmallestUptoRow : OpenClaim := { program := "ytgfidbejffhalaa", sum := "c930f82f815b3e70daa9390c161f5c2c024c999c11db7c8fdcd5564536484b61", func := "coinage/coinagelaw25.ContradictionSmallest", spec := "contradictionSmallest", unfollowed := true, recurses := true, apart := false, narrowed := true }
def ContradictionSmallestUptoSaid : Prop := contradictionSmallestUptoRow.holds Try.pinned (OpenSpec.upto contradictionSmallestSpec)

/-- 'coinagelaw25.ContradictionMinimal', WHERE WHAT IT READS IS OF BULK AT MOST 1048576: true; the input reads as it did. -/
def contradictionMinimalUptoRow : OpenClaim := { program := "ytgfidbejffhalaa", sum := "c930f82f815b3e70daa9390c161f5c2c024c999c11db7c8fdcd5564536484b61", func := "coinage/coinagelaw25.ContradictionMinimal", spec := "contradictionMinimal", unfollowed := true, recurses := true, apart := false, narrowed := true }
def ContradictionMinimalUptoSaid : Prop := contradictionMinimalUptoRow.holds Try.pinned (OpenSpec.upto contradictionMinimalSpec)

/-- 'coinagelaw25.ContradictionSets', WHERE WHAT IT READS IS OF BULK AT MOST 1048576: true; the input reads as it did. -/
def contradictionSetsUptoRow : OpenClaim := { program := "ytgfidbejffhalaa", sum := "c930f82f815b3e70daa9390c161f5c2c024c999c11db7c8fdcd5564536484b61", func := "coinage/coinagelaw25.ContradictionSets", spec := "contradictionSets", unfollowed := true, recurses := true, apart := false, narrowed := true }
def ContradictionSetsUptoSaid : Prop := contradictionSetsUptoRow.holds Try.pinned (OpenSpec.upto contradictionSetsSpec)

/-- 'coinagelaw25.ContradictionGrows', WHERE WHAT IT READS IS OF BULK AT MOST 1048576: true; the input reads as it did. -/
def contradictionGrowsUptoRow : OpenClaim := { program := "ytgfidbejffhalaa", sum := "c930f82f815b3e70daa9390c161f5c2c024c999c11db7c8fdcd5564536484b61", func := "coinage/coinagelaw25.ContradictionGrows", spec := "contradictionGrows", unfollowed := true, recurses := true, apart := false, narrowed := true }
def ContradictionGrowsUptoSaid : Prop := contradictionGrowsUptoRow.holds Try.pinned (OpenSpec.upto contradictionGrowsSpec)

/-- 'coinagelaw25.ContradictionBlames', WHERE WHAT IT READS IS OF BULK AT MOST 1048576: true; the input reads as it did. -/
def contradictionBlamesUptoRow : OpenClaim := { program := "ytgfidbejffhalaa", sum := "c930f82f815b3e70daa9390c161f5c2c024c999c11db7c8fdcd5564536484b61", func := "coinage/coinagelaw25.ContradictionBlames", spec := "contradictionBlames", unfollowed := true, recurses := true, apart := false, narrowed := true }
def ContradictionBlamesUptoSaid : Prop := contradictionBlamesUptoRow.holds Try.pinned (OpenSpec.upto contradictionBlamesSpec)

/-- 'coinagelaw25.ContradictionLists', WHERE WHAT IT READS IS OF BULK AT MOST 1048576: true; the input reads as it did. -/
def contradictionListsUptoRow : OpenClaim := { program := "ytgfidbejffhalaa", sum := "c930f82f815b3e70daa9390c161f5c2c024c999c11db7c8fdcd5564536484b61", func := "coinage/coinagelaw25.ContradictionLists", spec := "contradictionLists", unfollowed := true, recurses := true, apart := false, narrowed := true }
def ContradictionListsUptoSaid : Prop := contradictionListsUptoRow.holds Try.pinned (OpenSpec.upto contradictionListsSpec)

/-- 'coinagelaw25.ContradictionExtends', WHERE WHAT IT READS IS OF BULK AT MOST 1048576: true; the input reads as it did. -/
def contradictionExtendsUptoRow : OpenClaim := { program := "ytgfidbejffhalaa", sum := "c930f82f815b3e70daa9390c161f5c2c024c999c11db7c8fdcd5564536484b61", func := "coinage/coinagelaw25.ContradictionExtends", spec := "contradictionExtends", unfollowed := true, recurses := true, apart := false, narrowed := true }
def ContradictionExtendsUptoSaid : Prop := contradictionExtendsUptoRow.holds Try.pinned (OpenSpec.upto contradictionExtendsSpec)

end Rows
end Go.Proofs.Ytgfidbejffhalaa
