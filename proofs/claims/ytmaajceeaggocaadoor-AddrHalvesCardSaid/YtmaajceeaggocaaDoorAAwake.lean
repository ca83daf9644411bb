/- awake(): a closed run. -/
import Derived.Test.YtmaajceeaggocaaDoorAPrg
set_option linter.unusedVariables false
set_option linter.unusedSimpArgs false
namespace Go.Proofs.YtmaajceeaggocaaDoor
open Go Go.Ideal
noncomputable abbrev E0 : Heap := Heap.empty 8
theorem globals8 : Tryd.prog.globals.size = 8 := by kernel_rfl
theorem awake_run : (callI Tryd.prog noOrc 2000 14 [] E0).map (·.1) = some (.bool true) := by kernel_rfl
theorem awake_w : CallW Tryd.prog noOrc 14 [] E0 fun v _ => v = .bool true := by
  obtain ⟨⟨v, h⟩, he, rfl⟩ := Option.map_eq_some_iff.1 awake_run
  exact ⟨_, h, ⟨2000, he⟩, rfl⟩
def awakeG (l : List Value) : Option Value := match l with | [] => some (.bool true) | _ => none
def O0 : Orc := noOrc.add 14 awakeG
theorem sound0 : ∀ B w0, OrcSound Tryd.prog B w0 O0 := Orc.add_sound progOK (fun _ _ => noOrc_sound) rfl (fun _ _ => rfl) Tryd.func14 rfl fun args v hg => by
  unfold awakeG at hg; split at hg
  · cases hg; exact ⟨rfl, rfl, globals8 ▸ awake_w⟩
  · cases hg
end Go.Proofs.YtmaajceeaggocaaDoor
