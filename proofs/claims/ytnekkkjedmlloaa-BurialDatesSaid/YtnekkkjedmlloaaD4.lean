/- Calls of functions of this seat's program: the reference's test of a chronology, and whether it is small. No condition. -/
import Derived.Test.YtnekkkjedmlloaaD3
namespace Go.Proofs.Ytnekkkjedmlloaa
open Go Go.Abs
set_option linter.unusedSimpArgs false
set_option linter.unusedVariables false
set_option maxRecDepth 20000

/-- A chronology with few parts. -/
def Fw (c : Cr) : Prop := (∀ i, i < c.ho.length → i < 10 → (c.ho.getD i dH).coins.length ≤ 40) ∧ c.ty.length ≤ 10 ∧ c.ho.length ≤ 8 ∧ c.ga.length ≤ 20
instance (c : Cr) : Decidable (Fw c) := by unfold Fw; infer_instance
end Go.Proofs.Ytnekkkjedmlloaa
