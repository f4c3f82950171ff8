/-
  No cell of these rows narrows 'for every input' (looked for: loops, veiled, ifaces, maps, wideKeys, modest, calm, conditions, laid).
  DERIVED. THE GIVEN ROWS OF THIS SEAT. 7 by the template 'for every input the law returns true; each argument reads behind the call as it read before'; 0 by the template 'total and deterministic' (their statements: YtkoecjhjdckgeaaTotals.lean).
  GIVEN WITH THE SEED: the statements are not yours to turn. If you find one false, say at which input.
  Laid BY PROGRAM, IN A SANDBOX (cutbox-rows.mjs): the forced cells as the released guide's own fill.sh prints them over the translation d51af9d1b5b105da… (all of the seat's roots in one cut). By AI agents, Wed Nov 11 2026. No macro, syntax, notation, axiom, sorry.
-/
import Derived.Test.YtkoecjhjdckgeaaChecked
import GoSem.Claim
import GoSem.ClaimJoined
import GoSem.ClaimMapViews
import Derived.JoinedTies
import Derived.KernelRfl
namespace Go.Proofs.Ytkoecjhjdckgeaa
/- THE CELL 'sum', in the pinned program and in every row, IS THE sha256 OF THE DUMP (.gsa) THAT YtkoecjhjdckgeaaProg.lean LOADS. Nothing in Lean hashes anything: it is a label: what it is worth is what the hold of that sum in a sandbox is worth. -/
noncomputable def Try.pinned : Pinned := { name := "ytkoecjhjdckgeaa", sum := "d51af9d1b5b105da16c01939055971e76b4cd7f22fb5f0473785e89299596d14", checked := Try.checked }
namespace Rows
def none {H : Type} : Left H := { results := [], args := [] }

/-- 'coinagelaw49.PlateMatchesReference': WHATEVER THE INPUT: true; the input reads as it did. -/
def plateMatchesReferenceSpec : ChangeSpec := { name := "plateMatchesReference", fn := fun _ => fun
  | [d1, d2] => { results := [.lit (.bool true)], args := [d1, d2] }
  | _ => none }
def plateMatchesReferenceRow : OpenClaim := { program := "ytkoecjhjdckgeaa", sum := "d51af9d1b5b105da16c01939055971e76b4cd7f22fb5f0473785e89299596d14", func := "coinage/coinagelaw49.PlateMatchesReference", spec := "plateMatchesReference", unfollowed := true, recurses := true, apart := false }
def PlateMatchesReferenceSaid : Prop := plateMatchesReferenceRow.holds Try.pinned (OpenSpec.ofChange plateMatchesReferenceSpec)

/-- ITS FALSE NEIGHBOUR: 'it returns false'. Refute it at one input. -/
def plateMatchesReferenceWrong : ChangeSpec := { name := "plateMatchesReference", fn := fun _ => fun
  | [d1, d2] => { results := [.lit (.bool false)], args := [d1, d2] }
  | _ => none }
def PlateMatchesReferenceWrongFalsely : Prop := plateMatchesReferenceRow.holds Try.pinned (OpenSpec.ofChange plateMatchesReferenceWrong)

/-- 'coinagelaw49.PlateFits': WHATEVER THE INPUT: true; the input reads as it did. -/
def plateFitsSpec : ChangeSpec := { name := "plateFits", fn := fun _ => fun
  | [d1, d2] => { results := [.lit (.bool true)], args := [d1, d2] }
  | _ => none }
def plateFitsRow : OpenClaim := { program := "ytkoecjhjdckgeaa", sum := "d51af9d1b5b105da16c01939055971e76b4cd7f22fb5f0473785e89299596d14", func := "coinage/coinagelaw49.PlateFits", spec := "plateFits", unfollowed := true, recurses := true, apart := false }
def PlateFitsSaid : Prop := plateFitsRow.holds Try.pinned (OpenSpec.ofChange plateFitsSpec)

/-- ITS FALSE NEIGHBOUR: 'it returns false'. Refute it at one input. -/
def plateFitsWrong : ChangeSpec := { name := "plateFits", fn := fun _ => fun
  | [d1, d2] => { results := [.lit (.bool false)], args := [d1, d2] }
  | _ => none }
def PlateFitsWrongFalsely : Prop := plateFitsRow.holds Try.pinned (OpenSpec.ofChange plateFitsWrong)

/-- 'coinagelaw49.PlateChecks': WHATEVER THE INPUT: true; the input reads as it did. -/
def plateChecksSpec : ChangeSpec := { name := "plateChecks", fn := fun _ => fun
  | [d1, d2, d3] => { results := [.lit (.bool true)], args := [d1, d2, d3] }
  | _ => none }
def plateChecksRow : OpenClaim := { program := "ytkoecjhjdckgeaa", sum := "d51af9d1b5b105da16c01939055971e76b4cd7f22fb5f0473785e89299596d14", func := "coinage/coinagelaw49.PlateChecks", spec := "plateChecks", unfollowed := true, recurses := true, apart := false }
def PlateChecksSaid : Prop := plateChecksRow.holds Try.pinned (OpenSpec.ofChange plateChecksSpec)

/-- ITS FALSE NEIGHBOUR: 'it returns false'. Refute it at one input. -/
def plateChecksWrong : ChangeSpec := { name := "plateChecks", fn := fun _ => fun
  | [d1, d2, d3] => { results := [.lit (.bool false)], args := [d1, d2, d3] }
  | _ => none }
def PlateChecksWrongFalsely : Prop := plateChecksRow.holds Try.pinned (OpenSpec.ofChange plateChecksWrong)

/-- 'coinagelaw49.PlateApart': WHATEVER THE INPUT: true; the input reads as it did. -/
def plateApartSpec : ChangeSpec := { name := "plateApart", fn := fun _ => fun
  | [d1, d2, d3] => { results := [.lit (.bool true)], args := [d1, d2, d3] }
  | _ => none }
def plateApartRow : OpenClaim := { program := "ytkoecjhjdckgeaa", sum := "d51af9d1b5b105da16c01939055971e76b4cd7f22fb5f0473785e89299596d14", func := "coinage/coinagelaw49.PlateApart", spec := "plateApart", unfollowed := true, recurses := true, apart := false }
def PlateApartSaid : Prop := plateApartRow.holds Try.pinned (OpenSpec.ofChange plateApartSpec)

/-- ITS FALSE NEIGHBOUR: 'it returns false'. Refute it at one input. -/
def plateApartWrong : ChangeSpec := { name := "plateApart", fn := fun _ => fun
  | [d1, d2, d3] => { results := [.lit (.bool false)], args := [d1, d2, d3] }
  | _ => none }
def PlateApartWrongFalsely : Prop := plateApartRow.holds Try.pinned (OpenSpec.ofChange plateApartWrong)

/-- 'coinagelaw49.PlateOrders': WHATEVER THE INPUT: true; the input reads as it did. -/
def plateOrdersSpec : ChangeSpec := { name := "plateOrders", fn := fun _ => fun
  | [d] => { results := [.lit (.bool true)], args := [d] }
  | _ => none }
def plateOrdersRow : OpenClaim := { program := "ytkoecjhjdckgeaa", sum := "d51af9d1b5b105da16c01939055971e76b4cd7f22fb5f0473785e89299596d14", func := "coinage/coinagelaw49.PlateOrders", spec := "plateOrders", unfollowed := true, recurses := true, apart := false }
def PlateOrdersSaid : Prop := plateOrdersRow.holds Try.pinned (OpenSpec.ofChange plateOrdersSpec)

/-- ITS FALSE NEIGHBOUR: 'it returns false'. Refute it at one input. -/
def plateOrdersWrong : ChangeSpec := { name := "plateOrders", fn := fun _ => fun
  | [d] => { results := [.lit (.bool false)], args := [d] }
  | _ => none }
def PlateOrdersWrongFalsely : Prop := plateOrdersRow.holds Try.pinned (OpenSpec.ofChange plateOrdersWrong)

/-- 'coinagelaw49.PlateCounts': WHATEVER THE INPUT: true; the input reads as it did. -/
def plateCountsSpec : ChangeSpec := { name := "plateCounts", fn := fun _ => fun
  | [d1, d2, d3] => { results := [.lit (.bool true)], args := [d1, d2, d3] }
  | _ => none }
def plateCountsRow : OpenClaim := { program := "ytkoecjhjdckgeaa", sum := "d51af9d1b5b105da16c01939055971e76b4cd7f22fb5f0473785e89299596d14", func := "coinage/coinagelaw49.PlateCounts", spec := "plateCounts", unfollowed := true, recurses := true, apart := false }
def PlateCountsSaid : Prop := plateCountsRow.holds Try.pinned (OpenSpec.ofChange plateCountsSpec)

/-- ITS FALSE NEIGHBOUR: 'it returns false'. Refute it at one input. -/
def plateCountsWrong : ChangeSpec := { name := "plateCounts", fn := fun _ => fun
  | [d1, d2, d3] => { results := [.lit (.bool false)], args := [d1, d2, d3] }
  | _ => none }
def PlateCountsWrongFalsely : Prop := plateCountsRow.holds Try.pinned (OpenSpec.ofChange plateCountsWrong)

/-- 'coinagelaw49.PlateFull': WHATEVER THE INPUT: true; the input reads as it did. -/
def plateFullSpec : ChangeSpec := { name := "plateFull", fn := fun _ => fun
  | [d1, d2] => { results := [.lit (.bool true)], args := [d1, d2] }
  | _ => none }
def plateFullRow : OpenClaim := { program := "ytkoecjhjdckgeaa", sum := "d51af9d1b5b105da16c01939055971e76b4cd7f22fb5f0473785e89299596d14", func := "coinage/coinagelaw49.PlateFull", spec := "plateFull", unfollowed := true, recurses := true, apart := false }
def PlateFullSaid : Prop := plateFullRow.holds Try.pinned (OpenSpec.ofChange plateFullSpec)

/-- ITS FALSE NEIGHBOUR: 'it returns false'. Refute it at one input. -/
def plateFullWrong : ChangeSpec := { name := "plateFull", fn := fun _ => fun
  | [d1, d2] => { results := [.lit (.bool false)], args := [d1, d2] }
  | _ => none }
def PlateFullWrongFalsely : Prop := plateFullRow.holds Try.pinned (OpenSpec.ofChange plateFullWrong)

/- THE SECOND FORM. 'bulk': how many values and letters a reading holds, each counted each time it is reached (what is shared counts as often as it is met; a slice's spare places count too). A statement '..UptoSaid' is the law's where the arguments, and the package variables that the reading takes, are together of bulk at most 1048576: NARROWER than '..Said'. Prove '..Said' where nothing that the law and all that it calls make is longer than what came in: it says more and counts as full. Else prove '..UptoSaid'. A law counts once. -/
mutual
def uptoBulk {H : Type} : DataW H → Nat
  | .lit (.string bytes) => bytes.length + 1
  | .lit _ => 1
  | .nil => 1
  | .ptr d => uptoBulk d + 1
  | .slice elems spare => uptoBulkAll elems + uptoBulkAll spare + 1
  | .agg parts => uptoBulkAll parts + 1
  | .iface _ d => uptoBulk d + 1
  | .map entries => uptoBulkEntries entries + 1
  | .held _ => 1
def uptoBulkAll {H : Type} : List (DataW H) → Nat
  | [] => 0
  | d :: r => uptoBulk d + uptoBulkAll r
def uptoBulkEntries {H : Type} : List (Lit × DataW H) → Nat
  | [] => 0
  | x :: r => uptoBulkEntry x + uptoBulkEntries r
def uptoBulkEntry {H : Type} : Lit × DataW H → Nat
  | (.string bytes, d) => bytes.length + uptoBulk d + 1
  | (_, d) => uptoBulk d + 1
 end
def uptoSmall : (H : Type) → List (DataW H) → Bool := fun _ ds => decide (uptoBulkAll ds ≤ 1048576)
def OpenSpec.upto (s : _root_.Go.ChangeSpec) : _root_.Go.OpenSpec := { _root_.Go.OpenSpec.ofChange s with cond := some uptoSmall }

/-- 'coinagelaw49.PlateMatchesReference', WHERE WHAT IT READS IS OF BULK AT MOST 1048576: true; the input reads as it did. -/
def plateMatchesReferenceUptoRow : OpenClaim := { program := "ytkoecjhjdckgeaa", sum := "d51af9d1b5b105da16c01939055971e76b4cd7f22fb5f0473785e89299596d14", func := "coinage/coinagelaw49.PlateMatchesReference", spec := "plateMatchesReference", unfollowed := true, recurses := true, apart := false, narrowed := true }
def PlateMatchesReferenceUptoSaid : Prop := plateMatchesReferenceUptoRow.holds Try.pinned (OpenSpec.upto plateMatchesReferenceSpec)

/-- 'coinagelaw49.PlateFits', WHERE WHAT IT READS IS OF BULK AT MOST 1048576: true; the input reads as it did. -/
def plateFitsUptoRow : OpenClaim := { program := "ytkoecjhjdckgeaa", sum := "d51af9d1b5b105da16c01939055971e76b4cd7f22fb5f0473785e89299596d14", func := "coinage/coinagelaw49.PlateFits", spec := "plateFits", unfollowed := true, recurses := true, apart := false, narrowed := true }
def PlateFitsUptoSaid : Prop := plateFitsUptoRow.holds Try.pinned (OpenSpec.upto plateFitsSpec)

/-- 'coinagelaw49.PlateChecks', WHERE WHAT IT READS IS OF BULK AT MOST 1048576: true; the input reads as it did. -/
def plateChecksUptoRow : OpenClaim := { program := "ytkoecjhjdckgeaa", sum := "d51af9d1b5b105da16c01939055971e76b4cd7f22fb5f0473785e89299596d14", func := "coinage/coinagelaw49.PlateChecks", spec := "plateChecks", unfollowed := true, recurses := true, apart := false, narrowed := true }
def PlateChecksUptoSaid : Prop := plateChecksUptoRow.holds Try.pinned (OpenSpec.upto plateChecksSpec)

/-- 'coinagelaw49.PlateApart', WHERE WHAT IT READS IS OF BULK AT MOST 1048576: true; the input reads as it did. -/
def plateApartUptoRow : OpenClaim := { program := "ytkoecjhjdckgeaa", sum := "d51af9d1b5b105da16c01939055971e76b4cd7f22fb5f0473785e89299596d14", func := "coinage/coinagelaw49.PlateApart", spec := "plateApart", unfollowed := true, recurses := true, apart := false, narrowed := true }
def PlateApartUptoSaid : Prop := plateApartUptoRow.holds Try.pinned (OpenSpec.upto plateApartSpec)

/-- 'coinagelaw49.PlateOrders', WHERE WHAT IT READS IS OF BULK AT MOST 1048576: true; the input reads as it did. -/
def plateOrdersUptoRow : OpenClaim := { program := "ytkoecjhjdckgeaa", sum := "d51af9d1b5b105da16c01939055971e76b4cd7f22fb5f0473785e89299596d14", func := "coinage/coinagelaw49.PlateOrders", spec := "plateOrders", unfollowed := true, recurses := true, apart := false, narrowed := true }
def PlateOrdersUptoSaid : Prop := plateOrdersUptoRow.holds Try.pinned (OpenSpec.upto plateOrdersSpec)

/-- 'coinagelaw49.PlateCounts', WHERE WHAT IT READS IS OF BULK AT MOST 1048576: true; the input reads as it did. -/
def plateCountsUptoRow : OpenClaim := { program := "ytkoecjhjdckgeaa", sum := "d51af9d1b5b105da16c01939055971e76b4cd7f22fb5f0473785e89299596d14", func := "coinage/coinagelaw49.PlateCounts", spec := "plateCounts", unfollowed := true, recurses := true, apart := false, narrowed := true }
def PlateCountsUptoSaid : Prop := plateCountsUptoRow.holds Try.pinned (OpenSpec.upto plateCountsSpec)

/-- 'coinagelaw49.PlateFull', WHERE WHAT IT READS IS OF BULK AT MOST 1048576: true; the input reads as it did. -/
def plateFullUptoRow : OpenClaim := { program := "ytkoecjhjdckgeaa", sum := "d51af9d1b5b105da16c01939055971e76b4cd7f22fb5f0473785e89299596d14", func := "coinage/coinagelaw49.PlateFull", spec := "plateFull", unfollowed := true, recurses := true, apart := false, narrowed := true }
def PlateFullUptoSaid : Prop := plateFullUptoRow.holds Try.pinned (OpenSpec.upto plateFullSpec)

end Rows
end Go.Proofs.Ytkoecjhjdckgeaa
