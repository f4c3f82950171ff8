/- The compiled form of functions of this seat's program, checked by the kernel. No condition. Printed by a program of ours. -/
import Derived.Test.YtgfidbejffhalaaA17
import Derived.Test.YtgfidbejffhalaaProg
namespace Go.Proofs.Ytgfidbejffhalaa
open Go Go.Abs
set_option maxRecDepth 100000
abbrev n_cmp_isNaN_int : Nat := 59
def g_cmp_isNaN_int : Cfg := ⟨6, [0, 2], [], [], [], [], [], []⟩
def F_cmp_isNaN_int : CFn := ⟨(.seq (.reg [⟨(.some 2), (.mv (.c (.bool false))), .none, 0⟩]) (.seq (.reg [⟨(.some 3), (.mv (.t 0)), .none, 0⟩, ⟨(.some 4), (.mv (.t 0)), .none, 0⟩, ⟨(.some 5), (.bin .neq (.t 3) (.t 4)), .none, 0⟩, ⟨(.some 2), (.mv (.t 5)), .none, 0⟩]) .ret)), [(.t 2)]⟩
theorem cF_cmp_isNaN_int : cFn Try.prog n_cmp_isNaN_int g_cmp_isNaN_int = some F_cmp_isNaN_int := by kernel_rfl
abbrev n_slices_Values_intX : Nat := 49
def g_slices_Values_intX : Cfg := ⟨4, [0, 1, 2], [], [], [], [], [], [1]⟩
def F_slices_Values_intX : CFn := ⟨(.seq (.reg [⟨(.some 1), (.boxF .none (.t 0)), .none, 0⟩, ⟨(.some 2), (.mv (.c .nilfn)), .none, 0⟩]) (.seq (.reg [⟨(.some 3), (.makeFunc 54 [(.t 1)]), .none, 0⟩, ⟨(.some 2), (.mv (.t 3)), .none, 0⟩]) .ret)), [(.t 2)]⟩
theorem cF_slices_Values_intX : cFn Try.prog n_slices_Values_intX g_slices_Values_intX = some F_slices_Values_intX := by kernel_rfl
end Go.Proofs.Ytgfidbejffhalaa
