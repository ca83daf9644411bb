/- Texts packed together: APrg. -/
import Derived.Test.YtidlganponfccaaDoorChecked
import Derived.KernelRfl
import Derived.Test.YtidlganponfccaaDoorZ13
section
/- What the ideal interpreter asks of this program. -/
set_option linter.unusedVariables false
set_option linter.unusedSimpArgs false
namespace Go.Proofs.YtidlganponfccaaDoor
open Go Go.Ideal

def funcsOK (P : Program) : Bool := P.funcs.toList.all fun fn => match fn.body with
  | some c => codeOK P c && !(fn.name == "runtime.NumGoroutine")
  | none => true

theorem funcs_ok : funcsOK Tryd.prog = true := by kernel_rfl

theorem progOK : ProgOK Tryd.prog := by
  have key : ∀ (f : FuncId) (fn : Func), Tryd.prog.funcs[f]? = some fn → ∀ c, fn.body = some c → codeOK Tryd.prog c = true ∧ (fn.name == "runtime.NumGoroutine") = false := fun f fn hf c hb => by
    have := List.all_eq_true.1 funcs_ok fn (by simpa using Array.mem_of_getElem? hf)
    simp only [hb, Bool.and_eq_true, Bool.not_eq_true'] at this
    exact this
  refine ⟨Tryd.checked.mixed, fun f fn c hf hb => (key f fn hf c hb).1, fun f fn hf hb => ?_⟩
  obtain ⟨c, hc⟩ := Option.isSome_iff_exists.1 hb
  exact (key f fn hf c hc).2

end Go.Proofs.YtidlganponfccaaDoor

end
