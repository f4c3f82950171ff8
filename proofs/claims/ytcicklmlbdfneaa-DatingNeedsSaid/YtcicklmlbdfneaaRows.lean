/-
  No cell of these rows narrows 'for every input' (looked for: loops, veiled, ifaces, maps, wideKeys, modest, calm, conditions, laid).
  DERIVED. THE GIVEN ROWS OF THIS SEAT. 9 by the template 'for every input the law returns true; each argument reads behind the call as it read before'; 0 by the template 'total and deterministic' (their statements: YtcicklmlbdfneaaTotals.lean).
  GIVEN WITH THE SEED: the statements are not yours to turn. If you find one false, say at which input.
  Laid BY PROGRAM, IN A SANDBOX (cutbox-rows.mjs): the forced cells as the released guide's own fill.sh prints them over the translation d01060cb69e47f9e… (all of the seat's roots in one cut). By AI agents, Wed Nov 11 2026. No macro, syntax, notation, axiom, sorry.
-/
import Derived.Test.YtcicklmlbdfneaaChecked
import GoSem.Claim
import GoSem.ClaimJoined
import GoSem.ClaimMapViews
import Derived.JoinedTies
import Derived.KernelRfl
namespace Go.Proofs.Ytcicklmlbdfneaa
/- THE CELL 'sum', in the pinned program and in every row, IS THE sha256 OF THE DUMP (.gsa) THAT YtcicklmlbdfneaaProg.lean LOADS. Nothing in Lean hashes anything: it is a label: what it is worth is what the hold of that sum in a sandbox is worth. -/
noncomputable def Try.pinned : Pinned := { name := "ytcicklmlbdfneaa", sum := "d01060cb69e47f9ee88289d9d5998d6050396c90f8a3b77d3158c500d776d087", checked := Try.checked }
namespace Rows
def none {H : Type} : Left H := { results := [], args := [] }

/-- 'coinagelaw34.DatingDates': WHATEVER THE INPUT: true; the input reads as it did. -/
def datingDatesSpec : ChangeSpec := { name := "datingDates", fn := fun _ => fun
  | [d] => { results := [.lit (.bool true)], args := [d] }
  | _ => none }
def datingDatesRow : OpenClaim := { program := "ytcicklmlbdfneaa", sum := "d01060cb69e47f9ee88289d9d5998d6050396c90f8a3b77d3158c500d776d087", func := "coinage/coinagelaw34.DatingDates", spec := "datingDates", unfollowed := true, recurses := true, apart := false }
def DatingDatesSaid : Prop := datingDatesRow.holds Try.pinned (OpenSpec.ofChange datingDatesSpec)

/-- ITS FALSE NEIGHBOUR: 'it returns false'. Refute it at one input. -/
def datingDatesWrong : ChangeSpec := { name := "datingDates", fn := fun _ => fun
  | [d] => { results := [.lit (.bool false)], args := [d] }
  | _ => none }
def DatingDatesWrongFalsely : Prop := datingDatesRow.holds Try.pinned (OpenSpec.ofChange datingDatesWrong)

/-- 'coinagelaw34.DatingTight': WHATEVER THE INPUT: true; the input reads as it did. -/
def datingTightSpec : ChangeSpec := { name := "datingTight", fn := fun _ => fun
  | [d1, d2, d3] => { results := [.lit (.bool true)], args := [d1, d2, d3] }
  | _ => none }
def datingTightRow : OpenClaim := { program := "ytcicklmlbdfneaa", sum := "d01060cb69e47f9ee88289d9d5998d6050396c90f8a3b77d3158c500d776d087", func := "coinage/coinagelaw34.DatingTight", spec := "datingTight", unfollowed := true, recurses := true, apart := false }
def DatingTightSaid : Prop := datingTightRow.holds Try.pinned (OpenSpec.ofChange datingTightSpec)

/-- ITS FALSE NEIGHBOUR: 'it returns false'. Refute it at one input. -/
def datingTightWrong : ChangeSpec := { name := "datingTight", fn := fun _ => fun
  | [d1, d2, d3] => { results := [.lit (.bool false)], args := [d1, d2, d3] }
  | _ => none }
def DatingTightWrongFalsely : Prop := datingTightRow.holds Try.pinned (OpenSpec.ofChange datingTightWrong)

/-- 'coinagelaw34.DatingLess': WHATEVER THE INPUT: true; the input reads as it did. -/
def datingLessSpec : ChangeSpec := { name := "datingLess", fn := fun _ => fun
  | [d1, d2] => { results := [.lit (.bool true)], args := [d1, d2] }
  | _ => none }
def datingLessRow : OpenClaim := { program := "ytcicklmlbdfneaa", sum := "d01060cb69e47f9ee88289d9d5998d6050396c90f8a3b77d3158c500d776d087", func := "coinage/coinagelaw34.DatingLess", spec := "datingLess", unfollowed := true, recurses := true, apart := false }
def DatingLessSaid : Prop := datingLessRow.holds Try.pinned (OpenSpec.ofChange datingLessSpec)

/-- ITS FALSE NEIGHBOUR: 'it returns false'. Refute it at one input. -/
def datingLessWrong : ChangeSpec := { name := "datingLess", fn := fun _ => fun
  | [d1, d2] => { results := [.lit (.bool false)], args := [d1, d2] }
  | _ => none }
def DatingLessWrongFalsely : Prop := datingLessRow.holds Try.pinned (OpenSpec.ofChange datingLessWrong)

/-- 'coinagelaw34.DatingMoves': WHATEVER THE INPUT: true; the input reads as it did. -/
def datingMovesSpec : ChangeSpec := { name := "datingMoves", fn := fun _ => fun
  | [d1, d2] => { results := [.lit (.bool true)], args := [d1, d2] }
  | _ => none }
def datingMovesRow : OpenClaim := { program := "ytcicklmlbdfneaa", sum := "d01060cb69e47f9ee88289d9d5998d6050396c90f8a3b77d3158c500d776d087", func := "coinage/coinagelaw34.DatingMoves", spec := "datingMoves", unfollowed := true, recurses := true, apart := false }
def DatingMovesSaid : Prop := datingMovesRow.holds Try.pinned (OpenSpec.ofChange datingMovesSpec)

/-- ITS FALSE NEIGHBOUR: 'it returns false'. Refute it at one input. -/
def datingMovesWrong : ChangeSpec := { name := "datingMoves", fn := fun _ => fun
  | [d1, d2] => { results := [.lit (.bool false)], args := [d1, d2] }
  | _ => none }
def DatingMovesWrongFalsely : Prop := datingMovesRow.holds Try.pinned (OpenSpec.ofChange datingMovesWrong)

/-- 'coinagelaw34.DatingEnds': WHATEVER THE INPUT: true; the input reads as it did. -/
def datingEndsSpec : ChangeSpec := { name := "datingEnds", fn := fun _ => fun
  | [d1, d2] => { results := [.lit (.bool true)], args := [d1, d2] }
  | _ => none }
def datingEndsRow : OpenClaim := { program := "ytcicklmlbdfneaa", sum := "d01060cb69e47f9ee88289d9d5998d6050396c90f8a3b77d3158c500d776d087", func := "coinage/coinagelaw34.DatingEnds", spec := "datingEnds", unfollowed := true, recurses := true, apart := false }
def DatingEndsSaid : Prop := datingEndsRow.holds Try.pinned (OpenSpec.ofChange datingEndsSpec)

/-- ITS FALSE NEIGHBOUR: 'it returns false'. Refute it at one input. -/
def datingEndsWrong : ChangeSpec := { name := "datingEnds", fn := fun _ => fun
  | [d1, d2] => { results := [.lit (.bool false)], args := [d1, d2] }
  | _ => none }
def DatingEndsWrongFalsely : Prop := datingEndsRow.holds Try.pinned (OpenSpec.ofChange datingEndsWrong)

/-- 'coinagelaw34.DatingCloses': WHATEVER THE INPUT: true; the input reads as it did. -/
def datingClosesSpec : ChangeSpec := { name := "datingCloses", fn := fun _ => fun
  | [d1, d2, d3] => { results := [.lit (.bool true)], args := [d1, d2, d3] }
  | _ => none }
def datingClosesRow : OpenClaim := { program := "ytcicklmlbdfneaa", sum := "d01060cb69e47f9ee88289d9d5998d6050396c90f8a3b77d3158c500d776d087", func := "coinage/coinagelaw34.DatingCloses", spec := "datingCloses", unfollowed := true, recurses := true, apart := false }
def DatingClosesSaid : Prop := datingClosesRow.holds Try.pinned (OpenSpec.ofChange datingClosesSpec)

/-- ITS FALSE NEIGHBOUR: 'it returns false'. Refute it at one input. -/
def datingClosesWrong : ChangeSpec := { name := "datingCloses", fn := fun _ => fun
  | [d1, d2, d3] => { results := [.lit (.bool false)], args := [d1, d2, d3] }
  | _ => none }
def DatingClosesWrongFalsely : Prop := datingClosesRow.holds Try.pinned (OpenSpec.ofChange datingClosesWrong)

/-- 'coinagelaw34.DatingBetween': WHATEVER THE INPUT: true; the input reads as it did. -/
def datingBetweenSpec : ChangeSpec := { name := "datingBetween", fn := fun _ => fun
  | [d1, d2, d3] => { results := [.lit (.bool true)], args := [d1, d2, d3] }
  | _ => none }
def datingBetweenRow : OpenClaim := { program := "ytcicklmlbdfneaa", sum := "d01060cb69e47f9ee88289d9d5998d6050396c90f8a3b77d3158c500d776d087", func := "coinage/coinagelaw34.DatingBetween", spec := "datingBetween", unfollowed := true, recurses := true, apart := false }
def DatingBetweenSaid : Prop := datingBetweenRow.holds Try.pinned (OpenSpec.ofChange datingBetweenSpec)

/-- ITS FALSE NEIGHBOUR: 'it returns false'. Refute it at one input. -/
def datingBetweenWrong : ChangeSpec := { name := "datingBetween", fn := fun _ => fun
  | [d1, d2, d3] => { results := [.lit (.bool false)], args := [d1, d2, d3] }
  | _ => none }
def DatingBetweenWrongFalsely : Prop := datingBetweenRow.holds Try.pinned (OpenSpec.ofChange datingBetweenWrong)

/-- 'coinagelaw34.DatingNeeds': WHATEVER THE INPUT: true; the input reads as it did. -/
def datingNeedsSpec : ChangeSpec := { name := "datingNeeds", fn := fun _ => fun
  | [d] => { results := [.lit (.bool true)], args := [d] }
  | _ => none }
def datingNeedsRow : OpenClaim := { program := "ytcicklmlbdfneaa", sum := "d01060cb69e47f9ee88289d9d5998d6050396c90f8a3b77d3158c500d776d087", func := "coinage/coinagelaw34.DatingNeeds", spec := "datingNeeds", unfollowed := true, recurses := true, apart := false }
def DatingNeedsSaid : Prop := datingNeedsRow.holds Try.pinned (OpenSpec.ofChange datingNeedsSpec)

/-- ITS FALSE NEIGHBOUR: 'it returns false'. Refute it at one input. -/
def datingNeedsWrong : ChangeSpec := { name := "datingNeeds", fn := fun _ => fun
  | [d] => { results := [.lit (.bool false)], args := [d] }
  | _ => none }
def DatingNeedsWrongFalsely : Prop := datingNeedsRow.holds Try.pinned (OpenSpec.ofChange datingNeedsWrong)

/-- 'coinagelaw34.DatingChecks': WHATEVER THE INPUT: true; the input reads as it did. -/
def datingChecksSpec : ChangeSpec := { name := "datingChecks", fn := fun _ => fun
  | [d1, d2, d3] => { results := [.lit (.bool true)], args := [d1, d2, d3] }
  | _ => none }
def datingChecksRow : OpenClaim := { program := "ytcicklmlbdfneaa", sum := "d01060cb69e47f9ee88289d9d5998d6050396c90f8a3b77d3158c500d776d087", func := "coinage/coinagelaw34.DatingChecks", spec := "datingChecks", unfollowed := true, recurses := true, apart := false }
def DatingChecksSaid : Prop := datingChecksRow.holds Try.pinned (OpenSpec.ofChange datingChecksSpec)

/-- ITS FALSE NEIGHBOUR: 'it returns false'. Refute it at one input. -/
def datingChecksWrong : ChangeSpec := { name := "datingChecks", fn := fun _ => fun
  | [d1, d2, d3] => { results := [.lit (.bool false)], args := [d1, d2, d3] }
  | _ => none }
def DatingChecksWrongFalsely : Prop := datingChecksRow.holds Try.pinned (OpenSpec.ofChange datingChecksWrong)

/- THE SECOND FORM. 'bulk': how many values and letters a reading holds, each counted each time it is reached (what is shared counts as often as it is met; a slice's spare places count too). A statement '..UptoSaid' is the law's where the arguments, and the package variables that the reading takes, are together of bulk at most 1048576: NARROWER than '..Said'. Prove '..Said' where nothing that the law and all that it calls make is longer than what came in: it says more and counts as full. Else prove '..UptoSaid'. A law counts once. -/
mutual
def uptoBulk {H : Type} : DataW H → Nat
  | .lit (.string bytes) => bytes.length + 1
  | .lit _ => 1
  | .nil => 1
  | .ptr d => uptoBulk d + 1
  | .slice elems spare => uptoBulkAll elems + uptoBulkAll spare + 1
  | .agg parts => uptoBulkAll parts + 1
  | .iface _ d => uptoBulk d + 1
  | .map entries => uptoBulkEntries entries + 1
  | .held _ => 1
def uptoBulkAll {H : Type} : List (DataW H) → Nat
  | [] => 0
  | d :: r => uptoBulk d + uptoBulkAll r
def uptoBulkEntries {H : Type} : List (Lit × DataW H) → Nat
  | [] => 0
  | x :: r => uptoBulkEntry x + uptoBulkEntries r
def uptoBulkEntry {H : Type} : Lit × DataW H → Nat
  | (.string bytes, d) => bytes.length + uptoBulk d + 1
  | (_, d) => uptoBulk d + 1
 end
def uptoSmall : (H : Type) → List (DataW H) → Bool := fun _ ds => decide (uptoBulkAll ds ≤ 1048576)
def OpenSpec.upto (s : _root_.Go.ChangeSpec) : _root_.Go.OpenSpec := { _root_.Go.OpenSpec.ofChange s with cond := some uptoSmall }

/-- 'coinagelaw34.DatingDates', WHERE WHAT IT READS IS OF BULK AT MOST 1048576: true; the input reads as it did. -/
def datingDatesUptoRow : OpenClaim := { program := "ytcicklmlbdfneaa", sum := "d01060cb69e47f9ee88289d9d5998d6050396c90f8a3b77d3158c500d776d087", func := "coinage/coinagelaw34.DatingDates", spec := "datingDates", unfollowed := true, recurses := true, apart := false, narrowed := true }
def DatingDatesUptoSaid : Prop := datingDatesUptoRow.holds Try.pinned (OpenSpec.upto datingDatesSpec)

/-- 'coinagelaw34.DatingTight', WHERE WHAT IT READS IS OF BULK AT MOST 1048576: true; the input reads as it did. -/
def datingTightUptoRow : OpenClaim := { program := "ytcicklmlbdfneaa", sum := "d01060cb69e47f9ee88289d9d5998d6050396c90f8a3b77d3158c500d776d087", func := "coinage/coinagelaw34.DatingTight", spec := "datingTight", unfollowed := true, recurses := true, apart := false, narrowed := true }
def DatingTightUptoSaid : Prop := datingTightUptoRow.holds Try.pinned (OpenSpec.upto datingTightSpec)

/-- 'coinagelaw34.DatingLess', WHERE WHAT IT READS IS OF BULK AT MOST 1048576: true; the input reads as it did. -/
def datingLessUptoRow : OpenClaim := { program := "ytcicklmlbdfneaa", sum := "d01060cb69e47f9ee88289d9d5998d6050396c90f8a3b77d3158c500d776d087", func := "coinage/coinagelaw34.DatingLess", spec := "datingLess", unfollowed := true, recurses := true, apart := false, narrowed := true }
def DatingLessUptoSaid : Prop := datingLessUptoRow.holds Try.pinned (OpenSpec.upto datingLessSpec)

/-- 'coinagelaw34.DatingMoves', WHERE WHAT IT READS IS OF BULK AT MOST 1048576: true; the input reads as it did. -/
def datingMovesUptoRow : OpenClaim := { program := "ytcicklmlbdfneaa", sum := "d01060cb69e47f9ee88289d9d5998d6050396c90f8a3b77d3158c500d776d087", func := "coinage/coinagelaw34.DatingMoves", spec := "datingMoves", unfollowed := true, recurses := true, apart := false, narrowed := true }
def DatingMovesUptoSaid : Prop := datingMovesUptoRow.holds Try.pinned (OpenSpec.upto datingMovesSpec)

/-- 'coinagelaw34.DatingEnds', WHERE WHAT IT READS IS OF BULK AT MOST 1048576: true; the input reads as it did. -/
def datingEndsUptoRow : OpenClaim := { program := "ytcicklmlbdfneaa", sum := "d01060cb69e47f9ee88289d9d5998d6050396c90f8a3b77d3158c500d776d087", func := "coinage/coinagelaw34.DatingEnds", spec := "datingEnds", unfollowed := true, recurses := true, apart := false, narrowed := true }
def DatingEndsUptoSaid : Prop := datingEndsUptoRow.holds Try.pinned (OpenSpec.upto datingEndsSpec)

/-- 'coinagelaw34.DatingCloses', WHERE WHAT IT READS IS OF BULK AT MOST 1048576: true; the input reads as it did. -/
def datingClosesUptoRow : OpenClaim := { program := "ytcicklmlbdfneaa", sum := "d01060cb69e47f9ee88289d9d5998d6050396c90f8a3b77d3158c500d776d087", func := "coinage/coinagelaw34.DatingCloses", spec := "datingCloses", unfollowed := true, recurses := true, apart := false, narrowed := true }
def DatingClosesUptoSaid : Prop := datingClosesUptoRow.holds Try.pinned (OpenSpec.upto datingClosesSpec)

/-- 'coinagelaw34.DatingBetween', WHERE WHAT IT READS IS OF BULK AT MOST 1048576: true; the input reads as it did. -/
def datingBetweenUptoRow : OpenClaim := { program := "ytcicklmlbdfneaa", sum := "d01060cb69e47f9ee88289d9d5998d6050396c90f8a3b77d3158c500d776d087", func := "coinage/coinagelaw34.DatingBetween", spec := "datingBetween", unfollowed := true, recurses := true, apart := false, narrowed := true }
def DatingBetweenUptoSaid : Prop := datingBetweenUptoRow.holds Try.pinned (OpenSpec.upto datingBetweenSpec)

/-- 'coinagelaw34.DatingNeeds', WHERE WHAT IT READS IS OF BULK AT MOST 1048576: true; the input reads as it did. -/
def datingNeedsUptoRow : OpenClaim := { program := "ytcicklmlbdfneaa", sum := "d01060cb69e47f9ee88289d9d5998d6050396c90f8a3b77d3158c500d776d087", func := "coinage/coinagelaw34.DatingNeeds", spec := "datingNeeds", unfollowed := true, recurses := true, apart := false, narrowed := true }
def DatingNeedsUptoSaid : Prop := datingNeedsUptoRow.holds Try.pinned (OpenSpec.upto datingNeedsSpec)

/-- 'coinagelaw34.DatingChecks', WHERE WHAT IT READS IS OF BULK AT MOST 1048576: true; the input reads as it did. -/
def datingChecksUptoRow : OpenClaim := { program := "ytcicklmlbdfneaa", sum := "d01060cb69e47f9ee88289d9d5998d6050396c90f8a3b77d3158c500d776d087", func := "coinage/coinagelaw34.DatingChecks", spec := "datingChecks", unfollowed := true, recurses := true, apart := false, narrowed := true }
def DatingChecksUptoSaid : Prop := datingChecksUptoRow.holds Try.pinned (OpenSpec.upto datingChecksSpec)

end Rows
end Go.Proofs.Ytcicklmlbdfneaa
