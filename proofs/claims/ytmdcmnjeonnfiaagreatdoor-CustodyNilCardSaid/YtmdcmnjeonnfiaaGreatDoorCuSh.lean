import Derived.Test.YtmdcmnjeonnfiaaGreatDoorCuCo
import Derived.Test.YtmdcmnjeonnfiaaGreatDoorCuRun
set_option linter.unusedSimpArgs false
set_option linter.unusedVariables false
open Go Go.Ab
theorem shipped_calls (W : World) : Calls Go.Proofs.Tryz.prog 7 #[] W fun end' W' => ∃ v' μ, end' = .returned v' ∧ V μ (.bool true) v' ∧ W.heap.size ≤ W'.heap.size ∧ (∀ b, b < W.heap.size → W'.heap[b]? = W.heap[b]?) ∧ W'.os = W.os ∧ W'.tape = W.tape ∧ W'.output = W.output :=
  runS_closed ok0 co0 hm sum0_ok shipped_run W
