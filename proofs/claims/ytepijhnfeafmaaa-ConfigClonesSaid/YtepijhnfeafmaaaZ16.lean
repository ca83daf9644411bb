/- Texts packed together: CCom. -/
import Derived.Test.YtepijhnfeafmaaaRows
import Derived.WalkKit
import Derived.ProofKit
import Derived.OpenShut
import Derived.Test.YtepijhnfeafmaaaZ15
section
/- What the closings of this seat share. -/
set_option linter.unusedVariables false
set_option linter.unusedSimpArgs false
namespace Go.Proofs.Ytepijhnfeafmaaa
open Go Go.Ideal Go.ChangeShapes Go.WideShapes Go.ChangeAt Go.RowKit

theorem own : ownKnob Try.prog.godebug = none := by kernel_rfl
theorem globals0 : Try.prog.globals.size = 0 := by kernel_rfl
theorem globsLe (W : World) : Try.prog.globals.size ≤ W.heap.size := by rw [globals0]; exact Nat.zero_le _
theorem laidOut : laidOutB Try.prog = true := by kernel_rfl
theorem mapsOK : mapsRowed Try.prog = true := by kernel_rfl
theorem slicesOK : ((List.range Try.prog.types.size).all fun t => match Try.prog.underlying t with | some (.slice e) => decide (0 < Try.prog.cellsOf e) | _ => true) = true := by kernel_rfl
def noF : Fz := ⟨fun _ _ => none, fun _ => none⟩
theorem noF_ok (W : World) : FzOK noF W := ⟨fun _ _ _ h => (by cases h), fun _ _ h => (by cases h)⟩
end Go.Proofs.Ytepijhnfeafmaaa

end
