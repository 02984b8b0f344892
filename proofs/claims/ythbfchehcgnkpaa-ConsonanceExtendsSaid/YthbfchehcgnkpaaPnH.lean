/- The plain machine and the program. -/
import Derived.Test.YthbfchehcgnkpaaPnC
import Derived.Test.YthbfchehcgnkpaaProg
import Derived.KernelRfl
set_option linter.unusedSimpArgs false
set_option linter.unusedVariables false
namespace Go.PM
open Go Go.RowKit Go.Proofs
set_option maxRecDepth 100000
theorem progOK : ProgOK Try.prog := progOK_of (by kernel_rfl) (by kernel_rfl)
end Go.PM
