/- The plain machine and the program. -/
import Derived.Test.YtjgapmocogjkmaaGreatDoorPnC
import Derived.Test.YtjgapmocogjkmaaGreatDoorProg
import Derived.KernelRfl
set_option linter.unusedSimpArgs false
set_option linter.unusedVariables false
namespace Go.PM
open Go Go.RowKit Go.Proofs
set_option maxRecDepth 100000
theorem progOK : ProgOK Tryz.prog := progOK_of (by kernel_rfl) (by kernel_rfl)
end Go.PM
