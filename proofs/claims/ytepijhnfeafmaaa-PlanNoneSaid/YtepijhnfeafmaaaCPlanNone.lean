/- Of no plan nothing comes: the walk of the law. -/
import Derived.Test.YtepijhnfeafmaaaAPrg
set_option linter.unusedVariables false
set_option linter.unusedSimpArgs false
set_option maxRecDepth 100000
namespace Go.Proofs.Ytepijhnfeafmaaa
open Go Go.Ideal
theorem awake33_w : CallK Try.prog 26 [] (.bool true) := CallK.run progOK 300 rfl rfl (by kernel_rfl) (by kernel_rfl)
theorem planNone_w (slot label place : Int) : CallK Try.prog 8 [.int .i64 slot, .int .i64 label, .int .i64 place] (.bool true) :=
  CallK.via progOK (pfs []) [] 100 (Adv.pur 156 (Value.bool true) Adv.nil) (by kernel_rfl) (by kernel_rfl) (p := CallK Try.prog 26 [] (Value.bool true) ∧ Value.bool true = Value.bool true) (by kernel_rfl) (by
    exact ⟨awake33_w, rfl⟩)
end Go.Proofs.Ytepijhnfeafmaaa
