/-
  No cell of these rows narrows 'for every input' (looked for: loops, veiled, ifaces, maps, wideKeys, modest, calm, conditions, laid).
  DERIVED. THE GIVEN ROWS OF THIS SEAT. 8 by the template 'for every input the law returns true; each argument reads behind the call as it read before'; 0 by the template 'total and deterministic' (their statements: YtndcbompcnlhmaaTotals.lean).
  GIVEN WITH THE SEED: the statements are not yours to turn. If you find one false, say at which input.
  Laid BY PROGRAM, IN A SANDBOX (cutbox-rows.mjs): the forced cells as the released guide's own fill.sh prints them over the translation 3c1b649714bc3510… (all of the seat's roots in one cut). By AI agents, Wed Nov 11 2026. No macro, syntax, notation, axiom, sorry.
-/
import Derived.Test.YtndcbompcnlhmaaChecked
import GoSem.Claim
import GoSem.ClaimJoined
import GoSem.ClaimMapViews
import Derived.JoinedTies
import Derived.KernelRfl
namespace Go.Proofs.Ytndcbompcnlhmaa
/- THE CELL 'sum', in the pinned program and in every row, IS THE sha256 OF THE DUMP (.gsa) THAT YtndcbompcnlhmaaProg.lean LOADS. Nothing in Lean hashes anything: it is a label: what it is worth is what the hold of that sum in a sandbox is worth. -/
noncomputable def Try.pinned : Pinned := { name := "ytndcbompcnlhmaa", sum := "3c1b649714bc35101b5945f47344ad8472c0e43f2d400a5658ef43a87024a96d", checked := Try.checked }
namespace Rows
def none {H : Type} : Left H := { results := [], args := [] }

/-- 'coinagelaw22.PrecedenceProves': WHATEVER THE INPUT: true; the input reads as it did. -/
def precedenceProvesSpec : ChangeSpec := { name := "precedenceProves", fn := fun _ => fun
  | [d1, d2, d3] => { results := [.lit (.bool true)], args := [d1, d2, d3] }
  | _ => none }
def precedenceProvesRow : OpenClaim := { program := "ytndcbompcnlhmaa", sum := "3c1b649714bc35101b5945f47344ad8472c0e43f2d400a5658ef43a87024a96d", func := "coinage/coinagelaw22.PrecedenceProves", spec := "precedenceProves", unfollowed := true, recurses := true, apart := false }
def PrecedenceProvesSaid : Prop := precedenceProvesRow.holds Try.pinned (OpenSpec.ofChange precedenceProvesSpec)

/-- ITS FALSE NEIGHBOUR: 'it returns false'. Refute it at one input. -/
def precedenceProvesWrong : ChangeSpec := { name := "precedenceProves", fn := fun _ => fun
  | [d1, d2, d3] => { results := [.lit (.bool false)], args := [d1, d2, d3] }
  | _ => none }
def PrecedenceProvesWrongFalsely : Prop := precedenceProvesRow.holds Try.pinned (OpenSpec.ofChange precedenceProvesWrong)

/-- 'coinagelaw22.PrecedenceWear': WHATEVER THE INPUT: true; the input reads as it did. -/
def precedenceWearSpec : ChangeSpec := { name := "precedenceWear", fn := fun _ => fun
  | [d] => { results := [.lit (.bool true)], args := [d] }
  | _ => none }
def precedenceWearRow : OpenClaim := { program := "ytndcbompcnlhmaa", sum := "3c1b649714bc35101b5945f47344ad8472c0e43f2d400a5658ef43a87024a96d", func := "coinage/coinagelaw22.PrecedenceWear", spec := "precedenceWear", unfollowed := true, recurses := true, apart := false }
def PrecedenceWearSaid : Prop := precedenceWearRow.holds Try.pinned (OpenSpec.ofChange precedenceWearSpec)

/-- ITS FALSE NEIGHBOUR: 'it returns false'. Refute it at one input. -/
def precedenceWearWrong : ChangeSpec := { name := "precedenceWear", fn := fun _ => fun
  | [d] => { results := [.lit (.bool false)], args := [d] }
  | _ => none }
def PrecedenceWearWrongFalsely : Prop := precedenceWearRow.holds Try.pinned (OpenSpec.ofChange precedenceWearWrong)

/-- 'coinagelaw22.PrecedenceTwo': WHATEVER THE INPUT: true; the input reads as it did. -/
def precedenceTwoSpec : ChangeSpec := { name := "precedenceTwo", fn := fun _ => fun
  | [d1, d2] => { results := [.lit (.bool true)], args := [d1, d2] }
  | _ => none }
def precedenceTwoRow : OpenClaim := { program := "ytndcbompcnlhmaa", sum := "3c1b649714bc35101b5945f47344ad8472c0e43f2d400a5658ef43a87024a96d", func := "coinage/coinagelaw22.PrecedenceTwo", spec := "precedenceTwo", unfollowed := true, recurses := true, apart := false }
def PrecedenceTwoSaid : Prop := precedenceTwoRow.holds Try.pinned (OpenSpec.ofChange precedenceTwoSpec)

/-- ITS FALSE NEIGHBOUR: 'it returns false'. Refute it at one input. -/
def precedenceTwoWrong : ChangeSpec := { name := "precedenceTwo", fn := fun _ => fun
  | [d1, d2] => { results := [.lit (.bool false)], args := [d1, d2] }
  | _ => none }
def PrecedenceTwoWrongFalsely : Prop := precedenceTwoRow.holds Try.pinned (OpenSpec.ofChange precedenceTwoWrong)

/-- 'coinagelaw22.PrecedenceChains': WHATEVER THE INPUT: true; the input reads as it did. -/
def precedenceChainsSpec : ChangeSpec := { name := "precedenceChains", fn := fun _ => fun
  | [d1, d2, d3] => { results := [.lit (.bool true)], args := [d1, d2, d3] }
  | _ => none }
def precedenceChainsRow : OpenClaim := { program := "ytndcbompcnlhmaa", sum := "3c1b649714bc35101b5945f47344ad8472c0e43f2d400a5658ef43a87024a96d", func := "coinage/coinagelaw22.PrecedenceChains", spec := "precedenceChains", unfollowed := true, recurses := true, apart := false }
def PrecedenceChainsSaid : Prop := precedenceChainsRow.holds Try.pinned (OpenSpec.ofChange precedenceChainsSpec)

/-- ITS FALSE NEIGHBOUR: 'it returns false'. Refute it at one input. -/
def precedenceChainsWrong : ChangeSpec := { name := "precedenceChains", fn := fun _ => fun
  | [d1, d2, d3] => { results := [.lit (.bool false)], args := [d1, d2, d3] }
  | _ => none }
def PrecedenceChainsWrongFalsely : Prop := precedenceChainsRow.holds Try.pinned (OpenSpec.ofChange precedenceChainsWrong)

/-- 'coinagelaw22.PrecedenceFollows': WHATEVER THE INPUT: true; the input reads as it did. -/
def precedenceFollowsSpec : ChangeSpec := { name := "precedenceFollows", fn := fun _ => fun
  | [d1, d2, d3] => { results := [.lit (.bool true)], args := [d1, d2, d3] }
  | _ => none }
def precedenceFollowsRow : OpenClaim := { program := "ytndcbompcnlhmaa", sum := "3c1b649714bc35101b5945f47344ad8472c0e43f2d400a5658ef43a87024a96d", func := "coinage/coinagelaw22.PrecedenceFollows", spec := "precedenceFollows", unfollowed := true, recurses := true, apart := false }
def PrecedenceFollowsSaid : Prop := precedenceFollowsRow.holds Try.pinned (OpenSpec.ofChange precedenceFollowsSpec)

/-- ITS FALSE NEIGHBOUR: 'it returns false'. Refute it at one input. -/
def precedenceFollowsWrong : ChangeSpec := { name := "precedenceFollows", fn := fun _ => fun
  | [d1, d2, d3] => { results := [.lit (.bool false)], args := [d1, d2, d3] }
  | _ => none }
def PrecedenceFollowsWrongFalsely : Prop := precedenceFollowsRow.holds Try.pinned (OpenSpec.ofChange precedenceFollowsWrong)

/-- 'coinagelaw22.PrecedenceCloses': WHATEVER THE INPUT: true; the input reads as it did. -/
def precedenceClosesSpec : ChangeSpec := { name := "precedenceCloses", fn := fun _ => fun
  | [d1, d2, d3] => { results := [.lit (.bool true)], args := [d1, d2, d3] }
  | _ => none }
def precedenceClosesRow : OpenClaim := { program := "ytndcbompcnlhmaa", sum := "3c1b649714bc35101b5945f47344ad8472c0e43f2d400a5658ef43a87024a96d", func := "coinage/coinagelaw22.PrecedenceCloses", spec := "precedenceCloses", unfollowed := true, recurses := true, apart := false }
def PrecedenceClosesSaid : Prop := precedenceClosesRow.holds Try.pinned (OpenSpec.ofChange precedenceClosesSpec)

/-- ITS FALSE NEIGHBOUR: 'it returns false'. Refute it at one input. -/
def precedenceClosesWrong : ChangeSpec := { name := "precedenceCloses", fn := fun _ => fun
  | [d1, d2, d3] => { results := [.lit (.bool false)], args := [d1, d2, d3] }
  | _ => none }
def PrecedenceClosesWrongFalsely : Prop := precedenceClosesRow.holds Try.pinned (OpenSpec.ofChange precedenceClosesWrong)

/-- 'coinagelaw22.PrecedenceAdds': WHATEVER THE INPUT: true; the input reads as it did. -/
def precedenceAddsSpec : ChangeSpec := { name := "precedenceAdds", fn := fun _ => fun
  | [d1, d2, d3] => { results := [.lit (.bool true)], args := [d1, d2, d3] }
  | _ => none }
def precedenceAddsRow : OpenClaim := { program := "ytndcbompcnlhmaa", sum := "3c1b649714bc35101b5945f47344ad8472c0e43f2d400a5658ef43a87024a96d", func := "coinage/coinagelaw22.PrecedenceAdds", spec := "precedenceAdds", unfollowed := true, recurses := true, apart := false }
def PrecedenceAddsSaid : Prop := precedenceAddsRow.holds Try.pinned (OpenSpec.ofChange precedenceAddsSpec)

/-- ITS FALSE NEIGHBOUR: 'it returns false'. Refute it at one input. -/
def precedenceAddsWrong : ChangeSpec := { name := "precedenceAdds", fn := fun _ => fun
  | [d1, d2, d3] => { results := [.lit (.bool false)], args := [d1, d2, d3] }
  | _ => none }
def PrecedenceAddsWrongFalsely : Prop := precedenceAddsRow.holds Try.pinned (OpenSpec.ofChange precedenceAddsWrong)

/-- 'coinagelaw22.PrecedenceBuilds': WHATEVER THE INPUT: true; the input reads as it did. -/
def precedenceBuildsSpec : ChangeSpec := { name := "precedenceBuilds", fn := fun _ => fun
  | [d1, d2] => { results := [.lit (.bool true)], args := [d1, d2] }
  | _ => none }
def precedenceBuildsRow : OpenClaim := { program := "ytndcbompcnlhmaa", sum := "3c1b649714bc35101b5945f47344ad8472c0e43f2d400a5658ef43a87024a96d", func := "coinage/coinagelaw22.PrecedenceBuilds", spec := "precedenceBuilds", unfollowed := true, recurses := true, apart := false }
def PrecedenceBuildsSaid : Prop := precedenceBuildsRow.holds Try.pinned (OpenSpec.ofChange precedenceBuildsSpec)

/-- ITS FALSE NEIGHBOUR: 'it returns false'. Refute it at one input. -/
def precedenceBuildsWrong : ChangeSpec := { name := "precedenceBuilds", fn := fun _ => fun
  | [d1, d2] => { results := [.lit (.bool false)], args := [d1, d2] }
  | _ => none }
def PrecedenceBuildsWrongFalsely : Prop := precedenceBuildsRow.holds Try.pinned (OpenSpec.ofChange precedenceBuildsWrong)

/- THE SECOND FORM. 'bulk': how many values and letters a reading holds, each counted each time it is reached (what is shared counts as often as it is met; a slice's spare places count too). A statement '..UptoSaid' is the law's where the arguments, and the package variables that the reading takes, are together of bulk at most 1048576: NARROWER than '..Said'. Prove '..Said' where nothing that the law and all that it calls make is longer than what came in: it says more and counts as full. Else prove '..UptoSaid'. A law counts once. -/
mutual
def uptoBulk {H : Type} : DataW H → Nat
  | .lit (.string bytes) => bytes.length + 1
  | .lit _ => 1
  | .nil => 1
  | .ptr d => uptoBulk d + 1
  | .slice elems spare => uptoBulkAll elems + uptoBulkAll spare + 1
  | .agg parts => uptoBulkAll parts + 1
  | .iface _ d => uptoBulk d + 1
  | .map entries => uptoBulkEntries entries + 1
  | .held _ => 1
def uptoBulkAll {H : Type} : List (DataW H) → Nat
  | [] => 0
  | d :: r => uptoBulk d + uptoBulkAll r
def uptoBulkEntries {H : Type} : List (Lit × DataW H) → Nat
  | [] => 0
  | x :: r => uptoBulkEntry x + uptoBulkEntries r
def uptoBulkEntry {H : Type} : Lit × DataW H → Nat
  | (.string bytes, d) => bytes.length + uptoBulk d + 1
  | (_, d) => uptoBulk d + 1
 end
def uptoSmall : (H : Type) → List (DataW H) → Bool := fun _ ds => decide (uptoBulkAll ds ≤ 1048576)
def OpenSpec.upto (s : _root_.Go.ChangeSpec) : _root_.Go.OpenSpec := { _root_.Go.OpenSpec.ofChange s with cond := some uptoSmall }

/-- 'coinagelaw22.PrecedenceProves', WHERE WHAT IT READS IS OF BULK AT MOST 1048576: true; the input reads as it did. -/
def precedenceProvesUptoRow : OpenClaim := { program := "ytndcbompcnlhmaa", sum := "3c1b649714bc35101b5945f47344ad8472c0e43f2d400a5658ef43a87024a96d", func := "coinage/coinagelaw22.PrecedenceProves", spec := "precedenceProves", unfollowed := true, recurses := true, apart := false, narrowed := true }
def PrecedenceProvesUptoSaid : Prop := precedenceProvesUptoRow.holds Try.pinned (OpenSpec.upto precedenceProvesSpec)

/-- 'coinagelaw22.PrecedenceWear', WHERE WHAT IT READS IS OF BULK AT MOST 1048576: true; the input reads as it did. -/
def precedenceWearUptoRow : OpenClaim := { program := "ytndcbompcnlhmaa", sum := "3c1b649714bc35101b5945f47344ad8472c0e43f2d400a5658ef43a87024a96d", func := "coinage/coinagelaw22.PrecedenceWear", spec := "precedenceWear", unfollowed := true, recurses := true, apart := false, narrowed := true }
def PrecedenceWearUptoSaid : Prop := precedenceWearUptoRow.holds Try.pinned (OpenSpec.upto precedenceWearSpec)

/-- 'coinagelaw22.PrecedenceTwo', WHERE WHAT IT READS IS OF BULK AT MOST 1048576: true; the input reads as it did. -/
def precedenceTwoUptoRow : OpenClaim := { program := "ytndcbompcnlhmaa", sum := "3c1b649714bc35101b5945f47344ad8472c0e43f2d400a5658ef43a87024a96d", func := "coinage/coinagelaw22.PrecedenceTwo", spec := "precedenceTwo", unfollowed := true, recurses := true, apart := false, narrowed := true }
def PrecedenceTwoUptoSaid : Prop := precedenceTwoUptoRow.holds Try.pinned (OpenSpec.upto precedenceTwoSpec)

/-- 'coinagelaw22.PrecedenceChains', WHERE WHAT IT READS IS OF BULK AT MOST 1048576: true; the input reads as it did. -/
def precedenceChainsUptoRow : OpenClaim := { program := "ytndcbompcnlhmaa", sum := "3c1b649714bc35101b5945f47344ad8472c0e43f2d400a5658ef43a87024a96d", func := "coinage/coinagelaw22.PrecedenceChains", spec := "precedenceChains", unfollowed := true, recurses := true, apart := false, narrowed := true }
def PrecedenceChainsUptoSaid : Prop := precedenceChainsUptoRow.holds Try.pinned (OpenSpec.upto precedenceChainsSpec)

/-- 'coinagelaw22.PrecedenceFollows', WHERE WHAT IT READS IS OF BULK AT MOST 1048576: true; the input reads as it did. -/
def precedenceFollowsUptoRow : OpenClaim := { program := "ytndcbompcnlhmaa", sum := "3c1b649714bc35101b5945f47344ad8472c0e43f2d400a5658ef43a87024a96d", func := "coinage/coinagelaw22.PrecedenceFollows", spec := "precedenceFollows", unfollowed := true, recurses := true, apart := false, narrowed := true }
def PrecedenceFollowsUptoSaid : Prop := precedenceFollowsUptoRow.holds Try.pinned (OpenSpec.upto precedenceFollowsSpec)

/-- 'coinagelaw22.PrecedenceCloses', WHERE WHAT IT READS IS OF BULK AT MOST 1048576: true; the input reads as it did. -/
def precedenceClosesUptoRow : OpenClaim := { program := "ytndcbompcnlhmaa", sum := "3c1b649714bc35101b5945f47344ad8472c0e43f2d400a5658ef43a87024a96d", func := "coinage/coinagelaw22.PrecedenceCloses", spec := "precedenceCloses", unfollowed := true, recurses := true, apart := false, narrowed := true }
def PrecedenceClosesUptoSaid : Prop := precedenceClosesUptoRow.holds Try.pinned (OpenSpec.upto precedenceClosesSpec)

/-- 'coinagelaw22.PrecedenceAdds', WHERE WHAT IT READS IS OF BULK AT MOST 1048576: true; the input reads as it did. -/
def precedenceAddsUptoRow : OpenClaim := { program := "ytndcbompcnlhmaa", sum := "3c1b649714bc35101b5945f47344ad8472c0e43f2d400a5658ef43a87024a96d", func := "coinage/coinagelaw22.PrecedenceAdds", spec := "precedenceAdds", unfollowed := true, recurses := true, apart := false, narrowed := true }
def PrecedenceAddsUptoSaid : Prop := precedenceAddsUptoRow.holds Try.pinned (OpenSpec.upto precedenceAddsSpec)

/-- 'coinagelaw22.PrecedenceBuilds', WHERE WHAT IT READS IS OF BULK AT MOST 1048576: true; the input reads as it did. -/
def precedenceBuildsUptoRow : OpenClaim := { program := "ytndcbompcnlhmaa", sum := "3c1b649714bc35101b5945f47344ad8472c0e43f2d400a5658ef43a87024a96d", func := "coinage/coinagelaw22.PrecedenceBuilds", spec := "precedenceBuilds", unfollowed := true, recurses := true, apart := false, narrowed := true }
def PrecedenceBuildsUptoSaid : Prop := precedenceBuildsUptoRow.holds Try.pinned (OpenSpec.upto precedenceBuildsSpec)

end Rows
end Go.Proofs.Ytndcbompcnlhmaa
