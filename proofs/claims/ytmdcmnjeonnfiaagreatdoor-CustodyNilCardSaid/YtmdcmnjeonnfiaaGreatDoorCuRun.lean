import Derived.Test.YtmdcmnjeonnfiaaGreatDoorCuEnv
import Derived.KernelRfl
set_option linter.unusedSimpArgs false
set_option linter.unusedVariables false
open Go Go.Ab
set_option maxRecDepth 100000
theorem shipped_run : isV (.bool true) (acallS sum0 E0 1000 40 7 [] ⟨.leaf, 0⟩) = true := by kernel_rfl
