/-
  No cell of these rows narrows 'for every input' (looked for: loops, veiled, ifaces, maps, wideKeys, modest, calm, conditions, laid).
  DERIVED. THE GIVEN ROWS OF THIS SEAT. 7 by the template 'for every input the law returns true; each argument reads behind the call as it read before'; 0 by the template 'total and deterministic' (their statements: YtcnmodnafnadlaaTotals.lean).
  GIVEN WITH THE SEED: the statements are not yours to turn. If you find one false, say at which input.
  Laid BY PROGRAM, IN A SANDBOX (cutbox-rows.mjs): the forced cells as the released guide's own fill.sh prints them over the translation 4724e5c895395213… (all of the seat's roots in one cut). By AI agents, Wed Nov 11 2026. No macro, syntax, notation, axiom, sorry.
-/
import Derived.Test.YtcnmodnafnadlaaChecked
import GoSem.Claim
import GoSem.ClaimJoined
import GoSem.ClaimMapViews
import Derived.JoinedTies
import Derived.KernelRfl
namespace Go.Proofs.Ytcnmodnafnadlaa
/- THE CELL 'sum', in the pinned program and in every row, IS THE sha256 OF THE DUMP (.gsa) THAT YtcnmodnafnadlaaProg.lean LOADS. Nothing in Lean hashes anything: it is a label: what it is worth is what the hold of that sum in a sandbox is worth. -/
noncomputable def Try.pinned : Pinned := { name := "ytcnmodnafnadlaa", sum := "4724e5c8953952130d464ceb902134e3ed816e8b485b17bd6d8fa53df817f085", checked := Try.checked }
namespace Rows
def none {H : Type} : Left H := { results := [], args := [] }

/-- 'coinagelaw11.DecisionKeeps': WHATEVER THE INPUT: true; the input reads as it did. -/
def decisionKeepsSpec : ChangeSpec := { name := "decisionKeeps", fn := fun _ => fun
  | [d] => { results := [.lit (.bool true)], args := [d] }
  | _ => none }
def decisionKeepsRow : OpenClaim := { program := "ytcnmodnafnadlaa", sum := "4724e5c8953952130d464ceb902134e3ed816e8b485b17bd6d8fa53df817f085", func := "coinage/coinagelaw11.DecisionKeeps", spec := "decisionKeeps", unfollowed := true, recurses := true, plainKeys := false, apart := false }
def DecisionKeepsSaid : Prop := decisionKeepsRow.holds Try.pinned (OpenSpec.ofChange decisionKeepsSpec)

/-- ITS FALSE NEIGHBOUR: 'it returns false'. Refute it at one input. -/
def decisionKeepsWrong : ChangeSpec := { name := "decisionKeeps", fn := fun _ => fun
  | [d] => { results := [.lit (.bool false)], args := [d] }
  | _ => none }
def DecisionKeepsWrongFalsely : Prop := decisionKeepsRow.holds Try.pinned (OpenSpec.ofChange decisionKeepsWrong)

/-- 'coinagelaw11.DecisionFills': WHATEVER THE INPUT: true; the input reads as it did. -/
def decisionFillsSpec : ChangeSpec := { name := "decisionFills", fn := fun _ => fun
  | [d1, d2] => { results := [.lit (.bool true)], args := [d1, d2] }
  | _ => none }
def decisionFillsRow : OpenClaim := { program := "ytcnmodnafnadlaa", sum := "4724e5c8953952130d464ceb902134e3ed816e8b485b17bd6d8fa53df817f085", func := "coinage/coinagelaw11.DecisionFills", spec := "decisionFills", unfollowed := true, recurses := true, plainKeys := false, apart := false }
def DecisionFillsSaid : Prop := decisionFillsRow.holds Try.pinned (OpenSpec.ofChange decisionFillsSpec)

/-- ITS FALSE NEIGHBOUR: 'it returns false'. Refute it at one input. -/
def decisionFillsWrong : ChangeSpec := { name := "decisionFills", fn := fun _ => fun
  | [d1, d2] => { results := [.lit (.bool false)], args := [d1, d2] }
  | _ => none }
def DecisionFillsWrongFalsely : Prop := decisionFillsRow.holds Try.pinned (OpenSpec.ofChange decisionFillsWrong)

/-- 'coinagelaw11.DecisionWithdraws': WHATEVER THE INPUT: true; the input reads as it did. -/
def decisionWithdrawsSpec : ChangeSpec := { name := "decisionWithdraws", fn := fun _ => fun
  | [d1, d2] => { results := [.lit (.bool true)], args := [d1, d2] }
  | _ => none }
def decisionWithdrawsRow : OpenClaim := { program := "ytcnmodnafnadlaa", sum := "4724e5c8953952130d464ceb902134e3ed816e8b485b17bd6d8fa53df817f085", func := "coinage/coinagelaw11.DecisionWithdraws", spec := "decisionWithdraws", unfollowed := true, recurses := true, plainKeys := false, apart := false }
def DecisionWithdrawsSaid : Prop := decisionWithdrawsRow.holds Try.pinned (OpenSpec.ofChange decisionWithdrawsSpec)

/-- ITS FALSE NEIGHBOUR: 'it returns false'. Refute it at one input. -/
def decisionWithdrawsWrong : ChangeSpec := { name := "decisionWithdraws", fn := fun _ => fun
  | [d1, d2] => { results := [.lit (.bool false)], args := [d1, d2] }
  | _ => none }
def DecisionWithdrawsWrongFalsely : Prop := decisionWithdrawsRow.holds Try.pinned (OpenSpec.ofChange decisionWithdrawsWrong)

/-- 'coinagelaw11.DecisionOrders': WHATEVER THE INPUT: true; the input reads as it did. -/
def decisionOrdersSpec : ChangeSpec := { name := "decisionOrders", fn := fun _ => fun
  | [d] => { results := [.lit (.bool true)], args := [d] }
  | _ => none }
def decisionOrdersRow : OpenClaim := { program := "ytcnmodnafnadlaa", sum := "4724e5c8953952130d464ceb902134e3ed816e8b485b17bd6d8fa53df817f085", func := "coinage/coinagelaw11.DecisionOrders", spec := "decisionOrders", unfollowed := true, recurses := true, plainKeys := false, apart := false }
def DecisionOrdersSaid : Prop := decisionOrdersRow.holds Try.pinned (OpenSpec.ofChange decisionOrdersSpec)

/-- ITS FALSE NEIGHBOUR: 'it returns false'. Refute it at one input. -/
def decisionOrdersWrong : ChangeSpec := { name := "decisionOrders", fn := fun _ => fun
  | [d] => { results := [.lit (.bool false)], args := [d] }
  | _ => none }
def DecisionOrdersWrongFalsely : Prop := decisionOrdersRow.holds Try.pinned (OpenSpec.ofChange decisionOrdersWrong)

/-- 'coinagelaw11.DecisionJoins': WHATEVER THE INPUT: true; the input reads as it did. -/
def decisionJoinsSpec : ChangeSpec := { name := "decisionJoins", fn := fun _ => fun
  | [d1, d2] => { results := [.lit (.bool true)], args := [d1, d2] }
  | _ => none }
def decisionJoinsRow : OpenClaim := { program := "ytcnmodnafnadlaa", sum := "4724e5c8953952130d464ceb902134e3ed816e8b485b17bd6d8fa53df817f085", func := "coinage/coinagelaw11.DecisionJoins", spec := "decisionJoins", inPlace := ["maps.clone"], unfollowed := true, recurses := true, plainKeys := false, apart := false }
def DecisionJoinsSaid : Prop := decisionJoinsRow.holds Try.pinned (OpenSpec.ofChange decisionJoinsSpec)

/-- ITS FALSE NEIGHBOUR: 'it returns false'. Refute it at one input. -/
def decisionJoinsWrong : ChangeSpec := { name := "decisionJoins", fn := fun _ => fun
  | [d1, d2] => { results := [.lit (.bool false)], args := [d1, d2] }
  | _ => none }
def DecisionJoinsWrongFalsely : Prop := decisionJoinsRow.holds Try.pinned (OpenSpec.ofChange decisionJoinsWrong)

/-- 'coinagelaw11.DecisionGroups': WHATEVER THE INPUT: true; the input reads as it did. -/
def decisionGroupsSpec : ChangeSpec := { name := "decisionGroups", fn := fun _ => fun
  | [d1, d2, d3] => { results := [.lit (.bool true)], args := [d1, d2, d3] }
  | _ => none }
def decisionGroupsRow : OpenClaim := { program := "ytcnmodnafnadlaa", sum := "4724e5c8953952130d464ceb902134e3ed816e8b485b17bd6d8fa53df817f085", func := "coinage/coinagelaw11.DecisionGroups", spec := "decisionGroups", inPlace := ["maps.clone"], unfollowed := true, recurses := true, plainKeys := false, apart := false }
def DecisionGroupsSaid : Prop := decisionGroupsRow.holds Try.pinned (OpenSpec.ofChange decisionGroupsSpec)

/-- ITS FALSE NEIGHBOUR: 'it returns false'. Refute it at one input. -/
def decisionGroupsWrong : ChangeSpec := { name := "decisionGroups", fn := fun _ => fun
  | [d1, d2, d3] => { results := [.lit (.bool false)], args := [d1, d2, d3] }
  | _ => none }
def DecisionGroupsWrongFalsely : Prop := decisionGroupsRow.holds Try.pinned (OpenSpec.ofChange decisionGroupsWrong)

/-- 'coinagelaw11.DecisionSame': WHATEVER THE INPUT: true; the input reads as it did. -/
def decisionSameSpec : ChangeSpec := { name := "decisionSame", fn := fun _ => fun
  | [d1, d2] => { results := [.lit (.bool true)], args := [d1, d2] }
  | _ => none }
def decisionSameRow : OpenClaim := { program := "ytcnmodnafnadlaa", sum := "4724e5c8953952130d464ceb902134e3ed816e8b485b17bd6d8fa53df817f085", func := "coinage/coinagelaw11.DecisionSame", spec := "decisionSame", inPlace := ["maps.clone"], unfollowed := true, recurses := true, plainKeys := false, apart := false }
def DecisionSameSaid : Prop := decisionSameRow.holds Try.pinned (OpenSpec.ofChange decisionSameSpec)

/-- ITS FALSE NEIGHBOUR: 'it returns false'. Refute it at one input. -/
def decisionSameWrong : ChangeSpec := { name := "decisionSame", fn := fun _ => fun
  | [d1, d2] => { results := [.lit (.bool false)], args := [d1, d2] }
  | _ => none }
def DecisionSameWrongFalsely : Prop := decisionSameRow.holds Try.pinned (OpenSpec.ofChange decisionSameWrong)

/- THE SECOND FORM. 'bulk': how many values and letters a reading holds, each counted each time it is reached (what is shared counts as often as it is met; a slice's spare places count too). A statement '..UptoSaid' is the law's where the arguments, and the package variables that the reading takes, are together of bulk at most 1048576: NARROWER than '..Said'. Prove '..Said' where nothing that the law and all that it calls make is longer than what came in: it says more and counts as full. Else prove '..UptoSaid'. A law counts once. -/
mutual
def uptoBulk {H : Type} : DataW H → Nat
  | .lit (.string bytes) => bytes.length + 1
  | .lit _ => 1
  | .nil => 1
  | .ptr d => uptoBulk d + 1
  | .slice elems spare => uptoBulkAll elems + uptoBulkAll spare + 1
  | .agg parts => uptoBulkAll parts + 1
  | .iface _ d => uptoBulk d + 1
  | .map entries => uptoBulkEntries entries + 1
  | .held _ => 1
def uptoBulkAll {H : Type} : List (DataW H) → Nat
  | [] => 0
  | d :: r => uptoBulk d + uptoBulkAll r
def uptoBulkEntries {H : Type} : List (Lit × DataW H) → Nat
  | [] => 0
  | x :: r => uptoBulkEntry x + uptoBulkEntries r
def uptoBulkEntry {H : Type} : Lit × DataW H → Nat
  | (.string bytes, d) => bytes.length + uptoBulk d + 1
  | (_, d) => uptoBulk d + 1
 end
def uptoSmall : (H : Type) → List (DataW H) → Bool := fun _ ds => decide (uptoBulkAll ds ≤ 1048576)
def OpenSpec.upto (s : _root_.Go.ChangeSpec) : _root_.Go.OpenSpec := { _root_.Go.OpenSpec.ofChange s with cond := some uptoSmall }

/-- 'coinagelaw11.DecisionKeeps', WHERE WHAT IT READS IS OF BULK AT MOST 1048576: true; the input reads as it did. -/
def decisionKeepsUptoRow : OpenClaim := { program := "ytcnmodnafnadlaa", sum := "4724e5c8953952130d464ceb902134e3ed816e8b485b17bd6d8fa53df817f085", func := "coinage/coinagelaw11.DecisionKeeps", spec := "decisionKeeps", unfollowed := true, recurses := true, plainKeys := false, apart := false, narrowed := true }
def DecisionKeepsUptoSaid : Prop := decisionKeepsUptoRow.holds Try.pinned (OpenSpec.upto decisionKeepsSpec)

/-- 'coinagelaw11.DecisionFills', WHERE WHAT IT READS IS OF BULK AT MOST 1048576: true; the input reads as it did. -/
def decisionFillsUptoRow : OpenClaim := { program := "ytcnmodnafnadlaa", sum := "4724e5c8953952130d464ceb902134e3ed816e8b485b17bd6d8fa53df817f085", func := "coinage/coinagelaw11.DecisionFills", spec := "decisionFills", unfollowed := true, recurses := true, plainKeys := false, apart := false, narrowed := true }
def DecisionFillsUptoSaid : Prop := decisionFillsUptoRow.holds Try.pinned (OpenSpec.upto decisionFillsSpec)

/-- 'coinagelaw11.DecisionWithdraws', WHERE WHAT IT READS IS OF BULK AT MOST 1048576: true; the input reads as it did. -/
def decisionWithdrawsUptoRow : OpenClaim := { program := "ytcnmodnafnadlaa", sum := "4724e5c8953952130d464ceb902134e3ed816e8b485b17bd6d8fa53df817f085", func := "coinage/coinagelaw11.DecisionWithdraws", spec := "decisionWithdraws", unfollowed := true, recurses := true, plainKeys := false, apart := false, narrowed := true }
def DecisionWithdrawsUptoSaid : Prop := decisionWithdrawsUptoRow.holds Try.pinned (OpenSpec.upto decisionWithdrawsSpec)

/-- 'coinagelaw11.DecisionOrders', WHERE WHAT IT READS IS OF BULK AT MOST 1048576: true; the input reads as it did. -/
def decisionOrdersUptoRow : OpenClaim := { program := "ytcnmodnafnadlaa", sum := "4724e5c8953952130d464ceb902134e3ed816e8b485b17bd6d8fa53df817f085", func := "coinage/coinagelaw11.DecisionOrders", spec := "decisionOrders", unfollowed := true, recurses := true, plainKeys := false, apart := false, narrowed := true }
def DecisionOrdersUptoSaid : Prop := decisionOrdersUptoRow.holds Try.pinned (OpenSpec.upto decisionOrdersSpec)

/-- 'coinagelaw11.DecisionJoins', WHERE WHAT IT READS IS OF BULK AT MOST 1048576: true; the input reads as it did. -/
def decisionJoinsUptoRow : OpenClaim := { program := "ytcnmodnafnadlaa", sum := "4724e5c8953952130d464ceb902134e3ed816e8b485b17bd6d8fa53df817f085", func := "coinage/coinagelaw11.DecisionJoins", spec := "decisionJoins", inPlace := ["maps.clone"], unfollowed := true, recurses := true, plainKeys := false, apart := false, narrowed := true }
def DecisionJoinsUptoSaid : Prop := decisionJoinsUptoRow.holds Try.pinned (OpenSpec.upto decisionJoinsSpec)

/-- 'coinagelaw11.DecisionGroups', WHERE WHAT IT READS IS OF BULK AT MOST 1048576: true; the input reads as it did. -/
def decisionGroupsUptoRow : OpenClaim := { program := "ytcnmodnafnadlaa", sum := "4724e5c8953952130d464ceb902134e3ed816e8b485b17bd6d8fa53df817f085", func := "coinage/coinagelaw11.DecisionGroups", spec := "decisionGroups", inPlace := ["maps.clone"], unfollowed := true, recurses := true, plainKeys := false, apart := false, narrowed := true }
def DecisionGroupsUptoSaid : Prop := decisionGroupsUptoRow.holds Try.pinned (OpenSpec.upto decisionGroupsSpec)

/-- 'coinagelaw11.DecisionSame', WHERE WHAT IT READS IS OF BULK AT MOST 1048576: true; the input reads as it did. -/
def decisionSameUptoRow : OpenClaim := { program := "ytcnmodnafnadlaa", sum := "4724e5c8953952130d464ceb902134e3ed816e8b485b17bd6d8fa53df817f085", func := "coinage/coinagelaw11.DecisionSame", spec := "decisionSame", inPlace := ["maps.clone"], unfollowed := true, recurses := true, plainKeys := false, apart := false, narrowed := true }
def DecisionSameUptoSaid : Prop := decisionSameUptoRow.holds Try.pinned (OpenSpec.upto decisionSameSpec)

end Rows
end Go.Proofs.Ytcnmodnafnadlaa
