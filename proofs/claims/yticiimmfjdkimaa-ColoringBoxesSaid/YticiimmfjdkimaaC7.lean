/- The compiled form of functions of this seat's program, checked by the kernel. No condition. Printed by a program of ours. -/
import Derived.Test.YticiimmfjdkimaaA17
import Derived.Test.YticiimmfjdkimaaProg
namespace Go.Proofs.Yticiimmfjdkimaa
open Go Go.Abs
set_option maxRecDepth 100000
abbrev n_slices_Values_intX : Nat := 48
def g_slices_Values_intX : Cfg := ⟨4, [0, 1, 2], [], [], [], [], [], [1]⟩
def F_slices_Values_intX : CFn := ⟨(.seq (.reg [⟨(.some 1), (.boxF .none (.t 0)), .none, 0⟩, ⟨(.some 2), (.mv (.c .nilfn)), .none, 0⟩]) (.seq (.reg [⟨(.some 3), (.makeFunc 65 [(.t 1)]), .none, 0⟩, ⟨(.some 2), (.mv (.t 3)), .none, 0⟩]) .ret)), [(.t 2)]⟩
theorem cF_slices_Values_intX : cFn Try.prog n_slices_Values_intX g_slices_Values_intX = some F_slices_Values_intX := by kernel_rfl
end Go.Proofs.Yticiimmfjdkimaa
