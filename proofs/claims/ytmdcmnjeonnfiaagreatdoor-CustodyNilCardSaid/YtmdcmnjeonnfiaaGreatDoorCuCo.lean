import Derived.Test.YtmdcmnjeonnfiaaGreatDoorCuEnv
import Derived.KernelRfl
set_option linter.unusedSimpArgs false
set_option linter.unusedVariables false
open Go Go.Ab
set_option maxRecDepth 100000
theorem codes0 : codesOk E0 fns = true := by kernel_rfl
theorem co0 : CodesOk E0 := mkEnv_codes codes0
