/- A world for the witness: what the door's run leaves, Go's own table laid beside it. -/
import Derived.Test.YtmaajceeaggocaaDoorALaw2
import Derived.Test.YtmaajceeaggocaaDoorTie
import Derived.LaidMore
import Derived.Deep.DeepLaidRun
set_option linter.unusedVariables false
set_option linter.unusedSimpArgs false
namespace Go.Proofs.YtmaajceeaggocaaDoor
open Go
def litValue : DataW Unit → Value
  | .lit (.int k n) => .int k n
  | _ => Go.undef
def tabCells : DataW Unit → Array Value
  | .agg l => (l.map litValue).toArray
  | _ => #[]
noncomputable def laidWorld (os : Os) : World :=
  { World.doorLaid Tryd.prog 100 os with heap := (World.doorLaid Tryd.prog 100 os).heap.modify 4 fun
      | .cells _ t frozen => .cells (tabCells Go.Pinned.utf8First) t frozen
      | o => o }
set_option maxRecDepth 100000
theorem laid_met (os : Os) (args : Array Value) : laidMet Tryd.prog Rows.addrCutsRow.laid ((laidWorld os).forCall (fun _ _ => 0) ⟨#[], args, []⟩).memory :=
  laidMet_of_run3 8 (by kernel_rfl) (by kernel_rfl) (by kernel_rfl)
end Go.Proofs.YtmaajceeaggocaaDoor
