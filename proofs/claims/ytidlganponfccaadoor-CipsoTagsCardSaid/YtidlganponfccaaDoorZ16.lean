/- Texts packed together: CComD. -/
import Derived.Test.YtidlganponfccaaDoorCards
import Derived.Test.YtidlganponfccaaDoorTie
import Derived.LaidMore
import Derived.Deep.DeepLaidRun
import Derived.WalkKit
import Derived.Deep.DeepHandedRow
import Derived.Lib.LaidTab
import Derived.Lib.SmallJoins
import Derived.Test.YtidlganponfccaaDoorZ15
section
/- What the closings of the tied cards share. -/
set_option linter.unusedVariables false
set_option linter.unusedSimpArgs false
namespace Go.Proofs.YtidlganponfccaaDoor
open Go Go.Ideal Go.ChangeShapes Go.WideShapes Go.ChangeAt Go.RowKit

theorem own : ownKnob Tryd.prog.godebug = none := by kernel_rfl
theorem globals8 : Tryd.prog.globals.size = 8 := by kernel_rfl
theorem globsLe {W : World} (h : W.ShapedOpen Tryd.prog) : Tryd.prog.globals.size ≤ W.heap.size := globs_le 7 globals8 (by kernel_rfl) h
theorem laidOut : laidOutB Tryd.prog = true := by kernel_rfl
theorem mapsOK : mapsRowed Tryd.prog = true := by kernel_rfl
theorem slicesOK : ((List.range Tryd.prog.types.size).all fun t => match Tryd.prog.underlying t with | some (.slice e) => decide (0 < Tryd.prog.cellsOf e) | _ => true) = true := by kernel_rfl
end Go.Proofs.YtidlganponfccaaDoor

end
