/-
  No cell of these rows narrows 'for every input' (looked for: loops, veiled, ifaces, maps, wideKeys, modest, calm, conditions, laid).
  DERIVED. THE GIVEN ROWS OF THIS SEAT. 6 by the template 'for every input the law returns true; each argument reads behind the call as it read before'; 0 by the template 'total and deterministic' (their statements: YtemfmnjhhdeedaaTotals.lean).
  GIVEN WITH THE SEED: the statements are not yours to turn. If you find one false, say at which input.
  Laid BY PROGRAM, IN A SANDBOX (cutbox-rows.mjs): the forced cells as the released guide's own fill.sh prints them over the translation 005fc93999457d79… (all of the seat's roots in one cut). By AI agents, Wed Nov 11 2026. No macro, syntax, notation, axiom, sorry.
-/
import Derived.Test.YtemfmnjhhdeedaaChecked
import GoSem.Claim
import GoSem.ClaimJoined
import GoSem.ClaimMapViews
import Derived.JoinedTies
import Derived.KernelRfl
namespace Go.Proofs.Ytemfmnjhhdeedaa
/- THE CELL 'sum', in the pinned program and in every row, IS THE sha256 OF THE DUMP (.gsa) THAT YtemfmnjhhdeedaaProg.lean LOADS. Nothing in Lean hashes anything: it is a label: what it is worth is what the hold of that sum in a sandbox is worth. -/
noncomputable def Try.pinned : Pinned := { name := "ytemfmnjhhdeedaa", sum := "005fc93999457d79c245f68713c531ea9a5404dfc2055e16f9930addbf913122", checked := Try.checked }
namespace Rows
def none {H : Type} : Left H := { results := [], args := [] }

/-- 'coinagelaw26.AttributionLeast': WHATEVER THE INPUT: true; the input reads as it did. -/
def attributionLeastSpec : ChangeSpec := { name := "attributionLeast", fn := fun _ => fun
  | [d] => { results := [.lit (.bool true)], args := [d] }
  | _ => none }
def attributionLeastRow : OpenClaim := { program := "ytemfmnjhhdeedaa", sum := "005fc93999457d79c245f68713c531ea9a5404dfc2055e16f9930addbf913122", func := "coinage/coinagelaw26.AttributionLeast", spec := "attributionLeast", unfollowed := true, recurses := true, apart := false }
def AttributionLeastSaid : Prop := attributionLeastRow.holds Try.pinned (OpenSpec.ofChange attributionLeastSpec)

/-- ITS FALSE NEIGHBOUR: 'it returns false'. Refute it at one input. -/
def attributionLeastWrong : ChangeSpec := { name := "attributionLeast", fn := fun _ => fun
  | [d] => { results := [.lit (.bool false)], args := [d] }
  | _ => none }
def AttributionLeastWrongFalsely : Prop := attributionLeastRow.holds Try.pinned (OpenSpec.ofChange attributionLeastWrong)

/-- 'coinagelaw26.AttributionMinimal': WHATEVER THE INPUT: true; the input reads as it did. -/
def attributionMinimalSpec : ChangeSpec := { name := "attributionMinimal", fn := fun _ => fun
  | [d1, d2, d3] => { results := [.lit (.bool true)], args := [d1, d2, d3] }
  | _ => none }
def attributionMinimalRow : OpenClaim := { program := "ytemfmnjhhdeedaa", sum := "005fc93999457d79c245f68713c531ea9a5404dfc2055e16f9930addbf913122", func := "coinage/coinagelaw26.AttributionMinimal", spec := "attributionMinimal", unfollowed := true, recurses := true, apart := false }
def AttributionMinimalSaid : Prop := attributionMinimalRow.holds Try.pinned (OpenSpec.ofChange attributionMinimalSpec)

/-- ITS FALSE NEIGHBOUR: 'it returns false'. Refute it at one input. -/
def attributionMinimalWrong : ChangeSpec := { name := "attributionMinimal", fn := fun _ => fun
  | [d1, d2, d3] => { results := [.lit (.bool false)], args := [d1, d2, d3] }
  | _ => none }
def AttributionMinimalWrongFalsely : Prop := attributionMinimalRow.holds Try.pinned (OpenSpec.ofChange attributionMinimalWrong)

/-- 'coinagelaw26.AttributionCosts': WHATEVER THE INPUT: true; the input reads as it did. -/
def attributionCostsSpec : ChangeSpec := { name := "attributionCosts", fn := fun _ => fun
  | [d1, d2, d3] => { results := [.lit (.bool true)], args := [d1, d2, d3] }
  | _ => none }
def attributionCostsRow : OpenClaim := { program := "ytemfmnjhhdeedaa", sum := "005fc93999457d79c245f68713c531ea9a5404dfc2055e16f9930addbf913122", func := "coinage/coinagelaw26.AttributionCosts", spec := "attributionCosts", unfollowed := true, recurses := true, apart := false }
def AttributionCostsSaid : Prop := attributionCostsRow.holds Try.pinned (OpenSpec.ofChange attributionCostsSpec)

/-- ITS FALSE NEIGHBOUR: 'it returns false'. Refute it at one input. -/
def attributionCostsWrong : ChangeSpec := { name := "attributionCosts", fn := fun _ => fun
  | [d1, d2, d3] => { results := [.lit (.bool false)], args := [d1, d2, d3] }
  | _ => none }
def AttributionCostsWrongFalsely : Prop := attributionCostsRow.holds Try.pinned (OpenSpec.ofChange attributionCostsWrong)

/-- 'coinagelaw26.AttributionOrders': WHATEVER THE INPUT: true; the input reads as it did. -/
def attributionOrdersSpec : ChangeSpec := { name := "attributionOrders", fn := fun _ => fun
  | [d1, d2] => { results := [.lit (.bool true)], args := [d1, d2] }
  | _ => none }
def attributionOrdersRow : OpenClaim := { program := "ytemfmnjhhdeedaa", sum := "005fc93999457d79c245f68713c531ea9a5404dfc2055e16f9930addbf913122", func := "coinage/coinagelaw26.AttributionOrders", spec := "attributionOrders", unfollowed := true, recurses := true, apart := false }
def AttributionOrdersSaid : Prop := attributionOrdersRow.holds Try.pinned (OpenSpec.ofChange attributionOrdersSpec)

/-- ITS FALSE NEIGHBOUR: 'it returns false'. Refute it at one input. -/
def attributionOrdersWrong : ChangeSpec := { name := "attributionOrders", fn := fun _ => fun
  | [d1, d2] => { results := [.lit (.bool false)], args := [d1, d2] }
  | _ => none }
def AttributionOrdersWrongFalsely : Prop := attributionOrdersRow.holds Try.pinned (OpenSpec.ofChange attributionOrdersWrong)

/-- 'coinagelaw26.AttributionPacks': WHATEVER THE INPUT: true; the input reads as it did. -/
def attributionPacksSpec : ChangeSpec := { name := "attributionPacks", fn := fun _ => fun
  | [d] => { results := [.lit (.bool true)], args := [d] }
  | _ => none }
def attributionPacksRow : OpenClaim := { program := "ytemfmnjhhdeedaa", sum := "005fc93999457d79c245f68713c531ea9a5404dfc2055e16f9930addbf913122", func := "coinage/coinagelaw26.AttributionPacks", spec := "attributionPacks", unfollowed := true, recurses := true, apart := false }
def AttributionPacksSaid : Prop := attributionPacksRow.holds Try.pinned (OpenSpec.ofChange attributionPacksSpec)

/-- ITS FALSE NEIGHBOUR: 'it returns false'. Refute it at one input. -/
def attributionPacksWrong : ChangeSpec := { name := "attributionPacks", fn := fun _ => fun
  | [d] => { results := [.lit (.bool false)], args := [d] }
  | _ => none }
def AttributionPacksWrongFalsely : Prop := attributionPacksRow.holds Try.pinned (OpenSpec.ofChange attributionPacksWrong)

/-- 'coinagelaw26.AttributionBounds': WHATEVER THE INPUT: true; the input reads as it did. -/
def attributionBoundsSpec : ChangeSpec := { name := "attributionBounds", fn := fun _ => fun
  | [d1, d2] => { results := [.lit (.bool true)], args := [d1, d2] }
  | _ => none }
def attributionBoundsRow : OpenClaim := { program := "ytemfmnjhhdeedaa", sum := "005fc93999457d79c245f68713c531ea9a5404dfc2055e16f9930addbf913122", func := "coinage/coinagelaw26.AttributionBounds", spec := "attributionBounds", unfollowed := true, recurses := true, apart := false }
def AttributionBoundsSaid : Prop := attributionBoundsRow.holds Try.pinned (OpenSpec.ofChange attributionBoundsSpec)

/-- ITS FALSE NEIGHBOUR: 'it returns false'. Refute it at one input. -/
def attributionBoundsWrong : ChangeSpec := { name := "attributionBounds", fn := fun _ => fun
  | [d1, d2] => { results := [.lit (.bool false)], args := [d1, d2] }
  | _ => none }
def AttributionBoundsWrongFalsely : Prop := attributionBoundsRow.holds Try.pinned (OpenSpec.ofChange attributionBoundsWrong)

/- THE SECOND FORM. 'bulk': how many values and letters a reading holds, each counted each time it is reached (what is shared counts as often as it is met; a slice's spare places count too). A statement '..UptoSaid' is the law's where the arguments, and the package variables that the reading takes, are together of bulk at most 1048576: NARROWER than '..Said'. Prove '..Said' where nothing that the law and all that it calls make is longer than what came in: it says more and counts as full. Else prove '..UptoSaid'. A law counts once. -/
mutual
def uptoBulk {H : Type} : DataW H → Nat
  | .lit (.string bytes) => bytes.length + 1
  | .lit _ => 1
  | .nil => 1
  | .ptr d => uptoBulk d + 1
  | .slice elems spare => uptoBulkAll elems + uptoBulkAll spare + 1
  | .agg parts => uptoBulkAll parts + 1
  | .iface _ d => uptoBulk d + 1
  | .map entries => uptoBulkEntries entries + 1
  | .held _ => 1
def uptoBulkAll {H : Type} : List (DataW H) → Nat
  | [] => 0
  | d :: r => uptoBulk d + uptoBulkAll r
def uptoBulkEntries {H : Type} : List (Lit × DataW H) → Nat
  | [] => 0
  | x :: r => uptoBulkEntry x + uptoBulkEntries r
def uptoBulkEntry {H : Type} : Lit × DataW H → Nat
  | (.string bytes, d) => bytes.length + uptoBulk d + 1
  | (_, d) => uptoBulk d + 1
 end
def uptoSmall : (H : Type) → List (DataW H) → Bool := fun _ ds => decide (uptoBulkAll ds ≤ 1048576)
def OpenSpec.upto (s : _root_.Go.ChangeSpec) : _root_.Go.OpenSpec := { _root_.Go.OpenSpec.ofChange s with cond := some uptoSmall }

/-- 'coinagelaw26.AttributionLeast', WHERE WHAT IT READS IS OF BULK AT MOST 1048576: true; the input reads as it did. -/
def attributionLeastUptoRow : OpenClaim := { program := "ytemfmnjhhdeedaa", sum := "005fc93999457d79c245f68713c531ea9a5404dfc2055e16f9930addbf913122", func := "coinage/coinagelaw26.AttributionLeast", spec := "attributionLeast", unfollowed := true, recurses := true, apart := false, narrowed := true }
def AttributionLeastUptoSaid : Prop := attributionLeastUptoRow.holds Try.pinned (OpenSpec.upto attributionLeastSpec)

/-- 'coinagelaw26.AttributionMinimal', WHERE WHAT IT READS IS OF BULK AT MOST 1048576: true; the input reads as it did. -/
def attributionMinimalUptoRow : OpenClaim := { program := "ytemfmnjhhdeedaa", sum := "005fc93999457d79c245f68713c531ea9a5404dfc2055e16f9930addbf913122", func := "coinage/coinagelaw26.AttributionMinimal", spec := "attributionMinimal", unfollowed := true, recurses := true, apart := false, narrowed := true }
def AttributionMinimalUptoSaid : Prop := attributionMinimalUptoRow.holds Try.pinned (OpenSpec.upto attributionMinimalSpec)

/-- 'coinagelaw26.AttributionCosts', WHERE WHAT IT READS IS OF BULK AT MOST 1048576: true; the input reads as it did. -/
def attributionCostsUptoRow : OpenClaim := { program := "ytemfmnjhhdeedaa", sum := "005fc93999457d79c245f68713c531ea9a5404dfc2055e16f9930addbf913122", func := "coinage/coinagelaw26.AttributionCosts", spec := "attributionCosts", unfollowed := true, recurses := true, apart := false, narrowed := true }
def AttributionCostsUptoSaid : Prop := attributionCostsUptoRow.holds Try.pinned (OpenSpec.upto attributionCostsSpec)

/-- 'coinagelaw26.AttributionOrders', WHERE WHAT IT READS IS OF BULK AT MOST 1048576: true; the input reads as it did. -/
def attributionOrdersUptoRow : OpenClaim := { program := "ytemfmnjhhdeedaa", sum := "005fc93999457d79c245f68713c531ea9a5404dfc2055e16f9930addbf913122", func := "coinage/coinagelaw26.AttributionOrders", spec := "attributionOrders", unfollowed := true, recurses := true, apart := false, narrowed := true }
def AttributionOrdersUptoSaid : Prop := attributionOrdersUptoRow.holds Try.pinned (OpenSpec.upto attributionOrdersSpec)

/-- 'coinagelaw26.AttributionPacks', WHERE WHAT IT READS IS OF BULK AT MOST 1048576: true; the input reads as it did. -/
def attributionPacksUptoRow : OpenClaim := { program := "ytemfmnjhhdeedaa", sum := "005fc93999457d79c245f68713c531ea9a5404dfc2055e16f9930addbf913122", func := "coinage/coinagelaw26.AttributionPacks", spec := "attributionPacks", unfollowed := true, recurses := true, apart := false, narrowed := true }
def AttributionPacksUptoSaid : Prop := attributionPacksUptoRow.holds Try.pinned (OpenSpec.upto attributionPacksSpec)

/-- 'coinagelaw26.AttributionBounds', WHERE WHAT IT READS IS OF BULK AT MOST 1048576: true; the input reads as it did. -/
def attributionBoundsUptoRow : OpenClaim := { program := "ytemfmnjhhdeedaa", sum := "005fc93999457d79c245f68713c531ea9a5404dfc2055e16f9930addbf913122", func := "coinage/coinagelaw26.AttributionBounds", spec := "attributionBounds", unfollowed := true, recurses := true, apart := false, narrowed := true }
def AttributionBoundsUptoSaid : Prop := attributionBoundsUptoRow.holds Try.pinned (OpenSpec.upto attributionBoundsSpec)

end Rows
end Go.Proofs.Ytemfmnjhhdeedaa
