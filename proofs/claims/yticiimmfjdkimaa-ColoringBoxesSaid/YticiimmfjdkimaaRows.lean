/-
  No cell of these rows narrows 'for every input' (looked for: loops, veiled, ifaces, maps, wideKeys, modest, calm, conditions, laid).
  DERIVED. THE GIVEN ROWS OF THIS SEAT. 8 by the template 'for every input the law returns true; each argument reads behind the call as it read before'; 0 by the template 'total and deterministic' (their statements: YticiimmfjdkimaaTotals.lean).
  GIVEN WITH THE SEED: the statements are not yours to turn. If you find one false, say at which input.
  Laid BY PROGRAM, IN A SANDBOX (cutbox-rows.mjs): the forced cells as the released guide's own fill.sh prints them over the translation cccbf07c0a4dafe3… (all of the seat's roots in one cut). By AI agents, Wed Nov 11 2026. No macro, syntax, notation, axiom, sorry.
-/
import Derived.Test.YticiimmfjdkimaaChecked
import GoSem.Claim
import GoSem.ClaimJoined
import GoSem.ClaimMapViews
import Derived.JoinedTies
import Derived.KernelRfl
namespace Go.Proofs.Yticiimmfjdkimaa
/- THE CELL 'sum', in the pinned program and in every row, IS THE sha256 OF THE DUMP (.gsa) THAT YticiimmfjdkimaaProg.lean LOADS. Nothing in Lean hashes anything: it is a label: what it is worth is what the hold of that sum in a sandbox is worth. -/
noncomputable def Try.pinned : Pinned := { name := "yticiimmfjdkimaa", sum := "cccbf07c0a4dafe395451d797e322916c74edb2897695f393a20a1575127f384", checked := Try.checked }
namespace Rows
def none {H : Type} : Left H := { results := [], args := [] }

/-- 'coinagelaw20.ColoringNumbers': WHATEVER THE INPUT: true; the input reads as it did. -/
def coloringNumbersSpec : ChangeSpec := { name := "coloringNumbers", fn := fun _ => fun
  | [d1, d2] => { results := [.lit (.bool true)], args := [d1, d2] }
  | _ => none }
def coloringNumbersRow : OpenClaim := { program := "yticiimmfjdkimaa", sum := "cccbf07c0a4dafe395451d797e322916c74edb2897695f393a20a1575127f384", func := "coinage/coinagelaw20.ColoringNumbers", spec := "coloringNumbers", unfollowed := true, recurses := true, apart := false }
def ColoringNumbersSaid : Prop := coloringNumbersRow.holds Try.pinned (OpenSpec.ofChange coloringNumbersSpec)

/-- ITS FALSE NEIGHBOUR: 'it returns false'. Refute it at one input. -/
def coloringNumbersWrong : ChangeSpec := { name := "coloringNumbers", fn := fun _ => fun
  | [d1, d2] => { results := [.lit (.bool false)], args := [d1, d2] }
  | _ => none }
def ColoringNumbersWrongFalsely : Prop := coloringNumbersRow.holds Try.pinned (OpenSpec.ofChange coloringNumbersWrong)

/-- 'coinagelaw20.ColoringPairs': WHATEVER THE INPUT: true; the input reads as it did. -/
def coloringPairsSpec : ChangeSpec := { name := "coloringPairs", fn := fun _ => fun
  | [d1, d2, d3] => { results := [.lit (.bool true)], args := [d1, d2, d3] }
  | _ => none }
def coloringPairsRow : OpenClaim := { program := "yticiimmfjdkimaa", sum := "cccbf07c0a4dafe395451d797e322916c74edb2897695f393a20a1575127f384", func := "coinage/coinagelaw20.ColoringPairs", spec := "coloringPairs", unfollowed := true, recurses := true, apart := false }
def ColoringPairsSaid : Prop := coloringPairsRow.holds Try.pinned (OpenSpec.ofChange coloringPairsSpec)

/-- ITS FALSE NEIGHBOUR: 'it returns false'. Refute it at one input. -/
def coloringPairsWrong : ChangeSpec := { name := "coloringPairs", fn := fun _ => fun
  | [d1, d2, d3] => { results := [.lit (.bool false)], args := [d1, d2, d3] }
  | _ => none }
def ColoringPairsWrongFalsely : Prop := coloringPairsRow.holds Try.pinned (OpenSpec.ofChange coloringPairsWrong)

/-- 'coinagelaw20.ColoringYears': WHATEVER THE INPUT: true; the input reads as it did. -/
def coloringYearsSpec : ChangeSpec := { name := "coloringYears", fn := fun _ => fun
  | [d] => { results := [.lit (.bool true)], args := [d] }
  | _ => none }
def coloringYearsRow : OpenClaim := { program := "yticiimmfjdkimaa", sum := "cccbf07c0a4dafe395451d797e322916c74edb2897695f393a20a1575127f384", func := "coinage/coinagelaw20.ColoringYears", spec := "coloringYears", unfollowed := true, recurses := true, apart := false }
def ColoringYearsSaid : Prop := coloringYearsRow.holds Try.pinned (OpenSpec.ofChange coloringYearsSpec)

/-- ITS FALSE NEIGHBOUR: 'it returns false'. Refute it at one input. -/
def coloringYearsWrong : ChangeSpec := { name := "coloringYears", fn := fun _ => fun
  | [d] => { results := [.lit (.bool false)], args := [d] }
  | _ => none }
def ColoringYearsWrongFalsely : Prop := coloringYearsRow.holds Try.pinned (OpenSpec.ofChange coloringYearsWrong)

/-- 'coinagelaw20.ColoringCliques': WHATEVER THE INPUT: true; the input reads as it did. -/
def coloringCliquesSpec : ChangeSpec := { name := "coloringCliques", fn := fun _ => fun
  | [d1, d2] => { results := [.lit (.bool true)], args := [d1, d2] }
  | _ => none }
def coloringCliquesRow : OpenClaim := { program := "yticiimmfjdkimaa", sum := "cccbf07c0a4dafe395451d797e322916c74edb2897695f393a20a1575127f384", func := "coinage/coinagelaw20.ColoringCliques", spec := "coloringCliques", unfollowed := true, recurses := true, apart := false }
def ColoringCliquesSaid : Prop := coloringCliquesRow.holds Try.pinned (OpenSpec.ofChange coloringCliquesSpec)

/-- ITS FALSE NEIGHBOUR: 'it returns false'. Refute it at one input. -/
def coloringCliquesWrong : ChangeSpec := { name := "coloringCliques", fn := fun _ => fun
  | [d1, d2] => { results := [.lit (.bool false)], args := [d1, d2] }
  | _ => none }
def ColoringCliquesWrongFalsely : Prop := coloringCliquesRow.holds Try.pinned (OpenSpec.ofChange coloringCliquesWrong)

/-- 'coinagelaw20.ColoringOrder': WHATEVER THE INPUT: true; the input reads as it did. -/
def coloringOrderSpec : ChangeSpec := { name := "coloringOrder", fn := fun _ => fun
  | [d1, d2] => { results := [.lit (.bool true)], args := [d1, d2] }
  | _ => none }
def coloringOrderRow : OpenClaim := { program := "yticiimmfjdkimaa", sum := "cccbf07c0a4dafe395451d797e322916c74edb2897695f393a20a1575127f384", func := "coinage/coinagelaw20.ColoringOrder", spec := "coloringOrder", unfollowed := true, recurses := true, apart := false }
def ColoringOrderSaid : Prop := coloringOrderRow.holds Try.pinned (OpenSpec.ofChange coloringOrderSpec)

/-- ITS FALSE NEIGHBOUR: 'it returns false'. Refute it at one input. -/
def coloringOrderWrong : ChangeSpec := { name := "coloringOrder", fn := fun _ => fun
  | [d1, d2] => { results := [.lit (.bool false)], args := [d1, d2] }
  | _ => none }
def ColoringOrderWrongFalsely : Prop := coloringOrderRow.holds Try.pinned (OpenSpec.ofChange coloringOrderWrong)

/-- 'coinagelaw20.ColoringChecks': WHATEVER THE INPUT: true; the input reads as it did. -/
def coloringChecksSpec : ChangeSpec := { name := "coloringChecks", fn := fun _ => fun
  | [d1, d2, d3] => { results := [.lit (.bool true)], args := [d1, d2, d3] }
  | _ => none }
def coloringChecksRow : OpenClaim := { program := "yticiimmfjdkimaa", sum := "cccbf07c0a4dafe395451d797e322916c74edb2897695f393a20a1575127f384", func := "coinage/coinagelaw20.ColoringChecks", spec := "coloringChecks", unfollowed := true, recurses := true, apart := false }
def ColoringChecksSaid : Prop := coloringChecksRow.holds Try.pinned (OpenSpec.ofChange coloringChecksSpec)

/-- ITS FALSE NEIGHBOUR: 'it returns false'. Refute it at one input. -/
def coloringChecksWrong : ChangeSpec := { name := "coloringChecks", fn := fun _ => fun
  | [d1, d2, d3] => { results := [.lit (.bool false)], args := [d1, d2, d3] }
  | _ => none }
def ColoringChecksWrongFalsely : Prop := coloringChecksRow.holds Try.pinned (OpenSpec.ofChange coloringChecksWrong)

/-- 'coinagelaw20.ColoringBoxes': WHATEVER THE INPUT: true; the input reads as it did. -/
def coloringBoxesSpec : ChangeSpec := { name := "coloringBoxes", fn := fun _ => fun
  | [d] => { results := [.lit (.bool true)], args := [d] }
  | _ => none }
def coloringBoxesRow : OpenClaim := { program := "yticiimmfjdkimaa", sum := "cccbf07c0a4dafe395451d797e322916c74edb2897695f393a20a1575127f384", func := "coinage/coinagelaw20.ColoringBoxes", spec := "coloringBoxes", unfollowed := true, recurses := true, apart := false }
def ColoringBoxesSaid : Prop := coloringBoxesRow.holds Try.pinned (OpenSpec.ofChange coloringBoxesSpec)

/-- ITS FALSE NEIGHBOUR: 'it returns false'. Refute it at one input. -/
def coloringBoxesWrong : ChangeSpec := { name := "coloringBoxes", fn := fun _ => fun
  | [d] => { results := [.lit (.bool false)], args := [d] }
  | _ => none }
def ColoringBoxesWrongFalsely : Prop := coloringBoxesRow.holds Try.pinned (OpenSpec.ofChange coloringBoxesWrong)

/-- 'coinagelaw20.ColoringLeast': WHATEVER THE INPUT: true; the input reads as it did. -/
def coloringLeastSpec : ChangeSpec := { name := "coloringLeast", fn := fun _ => fun
  | [d1, d2, d3] => { results := [.lit (.bool true)], args := [d1, d2, d3] }
  | _ => none }
def coloringLeastRow : OpenClaim := { program := "yticiimmfjdkimaa", sum := "cccbf07c0a4dafe395451d797e322916c74edb2897695f393a20a1575127f384", func := "coinage/coinagelaw20.ColoringLeast", spec := "coloringLeast", unfollowed := true, recurses := true, apart := false }
def ColoringLeastSaid : Prop := coloringLeastRow.holds Try.pinned (OpenSpec.ofChange coloringLeastSpec)

/-- ITS FALSE NEIGHBOUR: 'it returns false'. Refute it at one input. -/
def coloringLeastWrong : ChangeSpec := { name := "coloringLeast", fn := fun _ => fun
  | [d1, d2, d3] => { results := [.lit (.bool false)], args := [d1, d2, d3] }
  | _ => none }
def ColoringLeastWrongFalsely : Prop := coloringLeastRow.holds Try.pinned (OpenSpec.ofChange coloringLeastWrong)

/- THE SECOND FORM. 'bulk': how many values and letters a reading holds, each counted each time it is reached (what is shared counts as often as it is met; a slice's spare places count too). A statement '..UptoSaid' is the law's where the arguments, and the package variables that the reading takes, are together of bulk at most 1048576: NARROWER than '..Said'. Prove '..Said' where nothing that the law and all that it calls make is longer than what came in: it says more and counts as full. Else prove '..UptoSaid'. A law counts once. -/
mutual
def uptoBulk {H : Type} : DataW H → Nat
  | .lit (.string bytes) => bytes.length + 1
  | .lit _ => 1
  | .nil => 1
  | .ptr d => uptoBulk d + 1
  | .slice elems spare => uptoBulkAll elems + uptoBulkAll spare + 1
  | .agg parts => uptoBulkAll parts + 1
  | .iface _ d => uptoBulk d + 1
  | .map entries => uptoBulkEntries entries + 1
  | .held _ => 1
def uptoBulkAll {H : Type} : List (DataW H) → Nat
  | [] => 0
  | d :: r => uptoBulk d + uptoBulkAll r
def uptoBulkEntries {H : Type} : List (Lit × DataW H) → Nat
  | [] => 0
  | x :: r => uptoBulkEntry x + uptoBulkEntries r
def uptoBulkEntry {H : Type} : Lit × DataW H → Nat
  | (.string bytes, d) => bytes.length + uptoBulk d + 1
  | (_, d) => uptoBulk d + 1
 end
def uptoSmall : (H : Type) → List (DataW H) → Bool := fun _ ds => decide (uptoBulkAll ds ≤ 1048576)
def OpenSpec.upto (s : _root_.Go.ChangeSpec) : _root_.Go.OpenSpec := { _root_.Go.OpenSpec.ofChange s with cond := some uptoSmall }

/-- 'coinagelaw20.ColoringNumbers', WHERE WHAT IT READS IS OF BULK AT MOST 1048576: true; the input reads as it did. -/
def coloringNumbersUptoRow : OpenClaim := { program := "yticiimmfjdkimaa", sum := "cccbf07c0a4dafe395451d797e322916c74edb2897695f393a20a1575127f384", func := "coinage/coinagelaw20.ColoringNumbers", spec := "coloringNumbers", unfollowed := true, recurses := true, apart := false, narrowed := true }
def ColoringNumbersUptoSaid : Prop := coloringNumbersUptoRow.holds Try.pinned (OpenSpec.upto coloringNumbersSpec)

/-- 'coinagelaw20.ColoringPairs', WHERE WHAT IT READS IS OF BULK AT MOST 1048576: true; the input reads as it did. -/
def coloringPairsUptoRow : OpenClaim := { program := "yticiimmfjdkimaa", sum := "cccbf07c0a4dafe395451d797e322916c74edb2897695f393a20a1575127f384", func := "coinage/coinagelaw20.ColoringPairs", spec := "coloringPairs", unfollowed := true, recurses := true, apart := false, narrowed := true }
def ColoringPairsUptoSaid : Prop := coloringPairsUptoRow.holds Try.pinned (OpenSpec.upto coloringPairsSpec)

/-- 'coinagelaw20.ColoringYears', WHERE WHAT IT READS IS OF BULK AT MOST 1048576: true; the input reads as it did. -/
def coloringYearsUptoRow : OpenClaim := { program := "yticiimmfjdkimaa", sum := "cccbf07c0a4dafe395451d797e322916c74edb2897695f393a20a1575127f384", func := "coinage/coinagelaw20.ColoringYears", spec := "coloringYears", unfollowed := true, recurses := true, apart := false, narrowed := true }
def ColoringYearsUptoSaid : Prop := coloringYearsUptoRow.holds Try.pinned (OpenSpec.upto coloringYearsSpec)

/-- 'coinagelaw20.ColoringCliques', WHERE WHAT IT READS IS OF BULK AT MOST 1048576: true; the input reads as it did. -/
def coloringCliquesUptoRow : OpenClaim := { program := "yticiimmfjdkimaa", sum := "cccbf07c0a4dafe395451d797e322916c74edb2897695f393a20a1575127f384", func := "coinage/coinagelaw20.ColoringCliques", spec := "coloringCliques", unfollowed := true, recurses := true, apart := false, narrowed := true }
def ColoringCliquesUptoSaid : Prop := coloringCliquesUptoRow.holds Try.pinned (OpenSpec.upto coloringCliquesSpec)

/-- 'coinagelaw20.ColoringOrder', WHERE WHAT IT READS IS OF BULK AT MOST 1048576: true; the input reads as it did. -/
def coloringOrderUptoRow : OpenClaim := { program := "yticiimmfjdkimaa", sum := "cccbf07c0a4dafe395451d797e322916c74edb2897695f393a20a1575127f384", func := "coinage/coinagelaw20.ColoringOrder", spec := "coloringOrder", unfollowed := true, recurses := true, apart := false, narrowed := true }
def ColoringOrderUptoSaid : Prop := coloringOrderUptoRow.holds Try.pinned (OpenSpec.upto coloringOrderSpec)

/-- 'coinagelaw20.ColoringChecks', WHERE WHAT IT READS IS OF BULK AT MOST 1048576: true; the input reads as it did. -/
def coloringChecksUptoRow : OpenClaim := { program := "yticiimmfjdkimaa", sum := "cccbf07c0a4dafe395451d797e322916c74edb2897695f393a20a1575127f384", func := "coinage/coinagelaw20.ColoringChecks", spec := "coloringChecks", unfollowed := true, recurses := true, apart := false, narrowed := true }
def ColoringChecksUptoSaid : Prop := coloringChecksUptoRow.holds Try.pinned (OpenSpec.upto coloringChecksSpec)

/-- 'coinagelaw20.ColoringBoxes', WHERE WHAT IT READS IS OF BULK AT MOST 1048576: true; the input reads as it did. -/
def coloringBoxesUptoRow : OpenClaim := { program := "yticiimmfjdkimaa", sum := "cccbf07c0a4dafe395451d797e322916c74edb2897695f393a20a1575127f384", func := "coinage/coinagelaw20.ColoringBoxes", spec := "coloringBoxes", unfollowed := true, recurses := true, apart := false, narrowed := true }
def ColoringBoxesUptoSaid : Prop := coloringBoxesUptoRow.holds Try.pinned (OpenSpec.upto coloringBoxesSpec)

/-- 'coinagelaw20.ColoringLeast', WHERE WHAT IT READS IS OF BULK AT MOST 1048576: true; the input reads as it did. -/
def coloringLeastUptoRow : OpenClaim := { program := "yticiimmfjdkimaa", sum := "cccbf07c0a4dafe395451d797e322916c74edb2897695f393a20a1575127f384", func := "coinage/coinagelaw20.ColoringLeast", spec := "coloringLeast", unfollowed := true, recurses := true, apart := false, narrowed := true }
def ColoringLeastUptoSaid : Prop := coloringLeastUptoRow.holds Try.pinned (OpenSpec.upto coloringLeastSpec)

end Rows
end Go.Proofs.Yticiimmfjdkimaa
