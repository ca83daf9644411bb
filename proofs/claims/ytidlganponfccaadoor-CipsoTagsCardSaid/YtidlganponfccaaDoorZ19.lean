/- Texts packed together: CSplitLaw. -/
import Derived.Lib.Bytealg
import Derived.Test.YtidlganponfccaaDoorZ18
section
/- Texts as lists of bytes: split at a byte, and joined again. -/
set_option linter.unusedVariables false
set_option linter.unusedSimpArgs false
namespace Go.Proofs.YtidlganponfccaaDoor
open Go Go.Ideal
abbrev Bs := List UInt8
def bs (l : Bs) : ByteArray := ByteArray.mk l.toArray
theorem bs_size (l : Bs) : (bs l).size = l.length := by simp [bs, ByteArray.size]
end Go.Proofs.YtidlganponfccaaDoor

end
