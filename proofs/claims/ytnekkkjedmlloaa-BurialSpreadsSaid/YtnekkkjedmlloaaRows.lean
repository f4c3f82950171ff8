/-
  No cell of these rows narrows 'for every input' (looked for: loops, veiled, ifaces, maps, wideKeys, modest, calm, conditions, laid).
  DERIVED. THE GIVEN ROWS OF THIS SEAT. 7 by the template 'for every input the law returns true; each argument reads behind the call as it read before'; 0 by the template 'total and deterministic' (their statements: YtnekkkjedmlloaaTotals.lean).
  GIVEN WITH THE SEED: the statements are not yours to turn. If you find one false, say at which input.
  Laid BY PROGRAM, IN A SANDBOX (cutbox-rows.mjs): the forced cells as the released guide's own fill.sh prints them over the translation 3095e77ad156450a… (all of the seat's roots in one cut). By AI agents, Wed Nov 11 2026. No macro, syntax, notation, axiom, sorry.
-/
import Derived.Test.YtnekkkjedmlloaaChecked
import GoSem.Claim
import GoSem.ClaimJoined
import GoSem.ClaimMapViews
import Derived.JoinedTies
import Derived.KernelRfl
namespace Go.Proofs.Ytnekkkjedmlloaa
/- THE CELL 'sum', in the pinned program and in every row, IS THE sha256 OF THE DUMP (.gsa) THAT YtnekkkjedmlloaaProg.lean LOADS. Nothing in Lean hashes anything: it is a label: what it is worth is what the hold of that sum in a sandbox is worth. -/
noncomputable def Try.pinned : Pinned := { name := "ytnekkkjedmlloaa", sum := "3095e77ad156450af3cce351aaba99c26aa08e4ab1174564662969749c03f659", checked := Try.checked }
namespace Rows
def none {H : Type} : Left H := { results := [], args := [] }

/-- 'coinagelaw35.BurialSorted': WHATEVER THE INPUT: true; the input reads as it did. -/
def burialSortedSpec : ChangeSpec := { name := "burialSorted", fn := fun _ => fun
  | [d1, d2] => { results := [.lit (.bool true)], args := [d1, d2] }
  | _ => none }
def burialSortedRow : OpenClaim := { program := "ytnekkkjedmlloaa", sum := "3095e77ad156450af3cce351aaba99c26aa08e4ab1174564662969749c03f659", func := "coinage/coinagelaw35.BurialSorted", spec := "burialSorted", unfollowed := true, recurses := true, apart := false }
def BurialSortedSaid : Prop := burialSortedRow.holds Try.pinned (OpenSpec.ofChange burialSortedSpec)

/-- ITS FALSE NEIGHBOUR: 'it returns false'. Refute it at one input. -/
def burialSortedWrong : ChangeSpec := { name := "burialSorted", fn := fun _ => fun
  | [d1, d2] => { results := [.lit (.bool false)], args := [d1, d2] }
  | _ => none }
def BurialSortedWrongFalsely : Prop := burialSortedRow.holds Try.pinned (OpenSpec.ofChange burialSortedWrong)

/-- 'coinagelaw35.BurialOrders': WHATEVER THE INPUT: true; the input reads as it did. -/
def burialOrdersSpec : ChangeSpec := { name := "burialOrders", fn := fun _ => fun
  | [d1, d2] => { results := [.lit (.bool true)], args := [d1, d2] }
  | _ => none }
def burialOrdersRow : OpenClaim := { program := "ytnekkkjedmlloaa", sum := "3095e77ad156450af3cce351aaba99c26aa08e4ab1174564662969749c03f659", func := "coinage/coinagelaw35.BurialOrders", spec := "burialOrders", unfollowed := true, recurses := true, apart := false }
def BurialOrdersSaid : Prop := burialOrdersRow.holds Try.pinned (OpenSpec.ofChange burialOrdersSpec)

/-- ITS FALSE NEIGHBOUR: 'it returns false'. Refute it at one input. -/
def burialOrdersWrong : ChangeSpec := { name := "burialOrders", fn := fun _ => fun
  | [d1, d2] => { results := [.lit (.bool false)], args := [d1, d2] }
  | _ => none }
def BurialOrdersWrongFalsely : Prop := burialOrdersRow.holds Try.pinned (OpenSpec.ofChange burialOrdersWrong)

/-- 'coinagelaw35.BurialArcs': WHATEVER THE INPUT: true; the input reads as it did. -/
def burialArcsSpec : ChangeSpec := { name := "burialArcs", fn := fun _ => fun
  | [d1, d2] => { results := [.lit (.bool true)], args := [d1, d2] }
  | _ => none }
def burialArcsRow : OpenClaim := { program := "ytnekkkjedmlloaa", sum := "3095e77ad156450af3cce351aaba99c26aa08e4ab1174564662969749c03f659", func := "coinage/coinagelaw35.BurialArcs", spec := "burialArcs", unfollowed := true, recurses := true, apart := false }
def BurialArcsSaid : Prop := burialArcsRow.holds Try.pinned (OpenSpec.ofChange burialArcsSpec)

/-- ITS FALSE NEIGHBOUR: 'it returns false'. Refute it at one input. -/
def burialArcsWrong : ChangeSpec := { name := "burialArcs", fn := fun _ => fun
  | [d1, d2] => { results := [.lit (.bool false)], args := [d1, d2] }
  | _ => none }
def BurialArcsWrongFalsely : Prop := burialArcsRow.holds Try.pinned (OpenSpec.ofChange burialArcsWrong)

/-- 'coinagelaw35.BurialIntervals': WHATEVER THE INPUT: true; the input reads as it did. -/
def burialIntervalsSpec : ChangeSpec := { name := "burialIntervals", fn := fun _ => fun
  | [d] => { results := [.lit (.bool true)], args := [d] }
  | _ => none }
def burialIntervalsRow : OpenClaim := { program := "ytnekkkjedmlloaa", sum := "3095e77ad156450af3cce351aaba99c26aa08e4ab1174564662969749c03f659", func := "coinage/coinagelaw35.BurialIntervals", spec := "burialIntervals", unfollowed := true, recurses := true, apart := false }
def BurialIntervalsSaid : Prop := burialIntervalsRow.holds Try.pinned (OpenSpec.ofChange burialIntervalsSpec)

/-- ITS FALSE NEIGHBOUR: 'it returns false'. Refute it at one input. -/
def burialIntervalsWrong : ChangeSpec := { name := "burialIntervals", fn := fun _ => fun
  | [d] => { results := [.lit (.bool false)], args := [d] }
  | _ => none }
def BurialIntervalsWrongFalsely : Prop := burialIntervalsRow.holds Try.pinned (OpenSpec.ofChange burialIntervalsWrong)

/-- 'coinagelaw35.BurialDates': WHATEVER THE INPUT: true; the input reads as it did. -/
def burialDatesSpec : ChangeSpec := { name := "burialDates", fn := fun _ => fun
  | [d1, d2] => { results := [.lit (.bool true)], args := [d1, d2] }
  | _ => none }
def burialDatesRow : OpenClaim := { program := "ytnekkkjedmlloaa", sum := "3095e77ad156450af3cce351aaba99c26aa08e4ab1174564662969749c03f659", func := "coinage/coinagelaw35.BurialDates", spec := "burialDates", unfollowed := true, recurses := true, apart := false }
def BurialDatesSaid : Prop := burialDatesRow.holds Try.pinned (OpenSpec.ofChange burialDatesSpec)

/-- ITS FALSE NEIGHBOUR: 'it returns false'. Refute it at one input. -/
def burialDatesWrong : ChangeSpec := { name := "burialDates", fn := fun _ => fun
  | [d1, d2] => { results := [.lit (.bool false)], args := [d1, d2] }
  | _ => none }
def BurialDatesWrongFalsely : Prop := burialDatesRow.holds Try.pinned (OpenSpec.ofChange burialDatesWrong)

/-- 'coinagelaw35.BurialTypes': WHATEVER THE INPUT: true; the input reads as it did. -/
def burialTypesSpec : ChangeSpec := { name := "burialTypes", fn := fun _ => fun
  | [d1, d2] => { results := [.lit (.bool true)], args := [d1, d2] }
  | _ => none }
def burialTypesRow : OpenClaim := { program := "ytnekkkjedmlloaa", sum := "3095e77ad156450af3cce351aaba99c26aa08e4ab1174564662969749c03f659", func := "coinage/coinagelaw35.BurialTypes", spec := "burialTypes", unfollowed := true, recurses := true, apart := false }
def BurialTypesSaid : Prop := burialTypesRow.holds Try.pinned (OpenSpec.ofChange burialTypesSpec)

/-- ITS FALSE NEIGHBOUR: 'it returns false'. Refute it at one input. -/
def burialTypesWrong : ChangeSpec := { name := "burialTypes", fn := fun _ => fun
  | [d1, d2] => { results := [.lit (.bool false)], args := [d1, d2] }
  | _ => none }
def BurialTypesWrongFalsely : Prop := burialTypesRow.holds Try.pinned (OpenSpec.ofChange burialTypesWrong)

/-- 'coinagelaw35.BurialSpreads': WHATEVER THE INPUT: true; the input reads as it did. -/
def burialSpreadsSpec : ChangeSpec := { name := "burialSpreads", fn := fun _ => fun
  | [d1, d2] => { results := [.lit (.bool true)], args := [d1, d2] }
  | _ => none }
def burialSpreadsRow : OpenClaim := { program := "ytnekkkjedmlloaa", sum := "3095e77ad156450af3cce351aaba99c26aa08e4ab1174564662969749c03f659", func := "coinage/coinagelaw35.BurialSpreads", spec := "burialSpreads", unfollowed := true, recurses := true, apart := false }
def BurialSpreadsSaid : Prop := burialSpreadsRow.holds Try.pinned (OpenSpec.ofChange burialSpreadsSpec)

/-- ITS FALSE NEIGHBOUR: 'it returns false'. Refute it at one input. -/
def burialSpreadsWrong : ChangeSpec := { name := "burialSpreads", fn := fun _ => fun
  | [d1, d2] => { results := [.lit (.bool false)], args := [d1, d2] }
  | _ => none }
def BurialSpreadsWrongFalsely : Prop := burialSpreadsRow.holds Try.pinned (OpenSpec.ofChange burialSpreadsWrong)

/- THE SECOND FORM. 'bulk': how many values and letters a reading holds, each counted each time it is reached (what is shared counts as often as it is met; a slice's spare places count too). A statement '..UptoSaid' is the law's where the arguments, and the package variables that the reading takes, are together of bulk at most 1048576: NARROWER than '..Said'. Prove '..Said' where nothing that the law and all that it calls make is longer than what came in: it says more and counts as full. Else prove '..UptoSaid'. A law counts once. -/
mutual
def uptoBulk {H : Type} : DataW H → Nat
  | .lit (.string bytes) => bytes.length + 1
  | .lit _ => 1
  | .nil => 1
  | .ptr d => uptoBulk d + 1
  | .slice elems spare => uptoBulkAll elems + uptoBulkAll spare + 1
  | .agg parts => uptoBulkAll parts + 1
  | .iface _ d => uptoBulk d + 1
  | .map entries => uptoBulkEntries entries + 1
  | .held _ => 1
def uptoBulkAll {H : Type} : List (DataW H) → Nat
  | [] => 0
  | d :: r => uptoBulk d + uptoBulkAll r
def uptoBulkEntries {H : Type} : List (Lit × DataW H) → Nat
  | [] => 0
  | x :: r => uptoBulkEntry x + uptoBulkEntries r
def uptoBulkEntry {H : Type} : Lit × DataW H → Nat
  | (.string bytes, d) => bytes.length + uptoBulk d + 1
  | (_, d) => uptoBulk d + 1
 end
def uptoSmall : (H : Type) → List (DataW H) → Bool := fun _ ds => decide (uptoBulkAll ds ≤ 1048576)
def OpenSpec.upto (s : _root_.Go.ChangeSpec) : _root_.Go.OpenSpec := { _root_.Go.OpenSpec.ofChange s with cond := some uptoSmall }

/-- 'coinagelaw35.BurialSorted', WHERE WHAT IT READS IS OF BULK AT MOST 1048576: true; the input reads as it did. -/
def burialSortedUptoRow : OpenClaim := { program := "ytnekkkjedmlloaa", sum := "3095e77ad156450af3cce351aaba99c26aa08e4ab1174564662969749c03f659", func := "coinage/coinagelaw35.BurialSorted", spec := "burialSorted", unfollowed := true, recurses := true, apart := false, narrowed := true }
def BurialSortedUptoSaid : Prop := burialSortedUptoRow.holds Try.pinned (OpenSpec.upto burialSortedSpec)

/-- 'coinagelaw35.BurialOrders', WHERE WHAT IT READS IS OF BULK AT MOST 1048576: true; the input reads as it did. -/
def burialOrdersUptoRow : OpenClaim := { program := "ytnekkkjedmlloaa", sum := "3095e77ad156450af3cce351aaba99c26aa08e4ab1174564662969749c03f659", func := "coinage/coinagelaw35.BurialOrders", spec := "burialOrders", unfollowed := true, recurses := true, apart := false, narrowed := true }
def BurialOrdersUptoSaid : Prop := burialOrdersUptoRow.holds Try.pinned (OpenSpec.upto burialOrdersSpec)

/-- 'coinagelaw35.BurialArcs', WHERE WHAT IT READS IS OF BULK AT MOST 1048576: true; the input reads as it did. -/
def burialArcsUptoRow : OpenClaim := { program := "ytnekkkjedmlloaa", sum := "3095e77ad156450af3cce351aaba99c26aa08e4ab1174564662969749c03f659", func := "coinage/coinagelaw35.BurialArcs", spec := "burialArcs", unfollowed := true, recurses := true, apart := false, narrowed := true }
def BurialArcsUptoSaid : Prop := burialArcsUptoRow.holds Try.pinned (OpenSpec.upto burialArcsSpec)

/-- 'coinagelaw35.BurialIntervals', WHERE WHAT IT READS IS OF BULK AT MOST 1048576: true; the input reads as it did. -/
def burialIntervalsUptoRow : OpenClaim := { program := "ytnekkkjedmlloaa", sum := "3095e77ad156450af3cce351aaba99c26aa08e4ab1174564662969749c03f659", func := "coinage/coinagelaw35.BurialIntervals", spec := "burialIntervals", unfollowed := true, recurses := true, apart := false, narrowed := true }
def BurialIntervalsUptoSaid : Prop := burialIntervalsUptoRow.holds Try.pinned (OpenSpec.upto burialIntervalsSpec)

/-- 'coinagelaw35.BurialDates', WHERE WHAT IT READS IS OF BULK AT MOST 1048576: true; the input reads as it did. -/
def burialDatesUptoRow : OpenClaim := { program := "ytnekkkjedmlloaa", sum := "3095e77ad156450af3cce351aaba99c26aa08e4ab1174564662969749c03f659", func := "coinage/coinagelaw35.BurialDates", spec := "burialDates", unfollowed := true, recurses := true, apart := false, narrowed := true }
def BurialDatesUptoSaid : Prop := burialDatesUptoRow.holds Try.pinned (OpenSpec.upto burialDatesSpec)

/-- 'coinagelaw35.BurialTypes', WHERE WHAT IT READS IS OF BULK AT MOST 1048576: true; the input reads as it did. -/
def burialTypesUptoRow : OpenClaim := { program := "ytnekkkjedmlloaa", sum := "3095e77ad156450af3cce351aaba99c26aa08e4ab1174564662969749c03f659", func := "coinage/coinagelaw35.BurialTypes", spec := "burialTypes", unfollowed := true, recurses := true, apart := false, narrowed := true }
def BurialTypesUptoSaid : Prop := burialTypesUptoRow.holds Try.pinned (OpenSpec.upto burialTypesSpec)

/-- 'coinagelaw35.BurialSpreads', WHERE WHAT IT READS IS OF BULK AT MOST 1048576: true; the input reads as it did. -/
def burialSpreadsUptoRow : OpenClaim := { program := "ytnekkkjedmlloaa", sum := "3095e77ad156450af3cce351aaba99c26aa08e4ab1174564662969749c03f659", func := "coinage/coinagelaw35.BurialSpreads", spec := "burialSpreads", unfollowed := true, recurses := true, apart := false, narrowed := true }
def BurialSpreadsUptoSaid : Prop := burialSpreadsUptoRow.holds Try.pinned (OpenSpec.upto burialSpreadsSpec)

end Rows
end Go.Proofs.Ytnekkkjedmlloaa
