/- The compiled form of functions of this seat's program, checked by the kernel. No condition. Printed by a program of ours. -/
import Derived.Test.YtcnmodnafnadlaaA17
import Derived.Test.YtcnmodnafnadlaaProg
namespace Go.Proofs.Ytcnmodnafnadlaa
open Go Go.Abs
set_option maxRecDepth 100000
abbrev n_maps_Values_DecisionX : Nat := 43
def g_maps_Values_DecisionX : Cfg := ⟨4, [0, 1, 2], [], [], [], [], [], [1]⟩
def F_maps_Values_DecisionX : CFn := ⟨(.seq (.reg [⟨(.some 1), (.boxF .none (.t 0)), .none, 0⟩, ⟨(.some 2), (.mv (.c .nilfn)), .none, 0⟩]) (.seq (.reg [⟨(.some 3), (.makeFunc 63 [(.t 1)]), .none, 0⟩, ⟨(.some 2), (.mv (.t 3)), .none, 0⟩]) .ret)), [(.t 2)]⟩
theorem cF_maps_Values_DecisionX : cFn Try.prog n_maps_Values_DecisionX g_maps_Values_DecisionX = some F_maps_Values_DecisionX := by kernel_rfl
abbrev n_maps_Keys_boolX : Nat := 47
def g_maps_Keys_boolX : Cfg := ⟨4, [0, 1, 2], [], [], [], [], [], [1]⟩
def F_maps_Keys_boolX : CFn := ⟨(.seq (.reg [⟨(.some 1), (.boxF .none (.t 0)), .none, 0⟩, ⟨(.some 2), (.mv (.c .nilfn)), .none, 0⟩]) (.seq (.reg [⟨(.some 3), (.makeFunc 68 [(.t 1)]), .none, 0⟩, ⟨(.some 2), (.mv (.t 3)), .none, 0⟩]) .ret)), [(.t 2)]⟩
theorem cF_maps_Keys_boolX : cFn Try.prog n_maps_Keys_boolX g_maps_Keys_boolX = some F_maps_Keys_boolX := by kernel_rfl
end Go.Proofs.Ytcnmodnafnadlaa
