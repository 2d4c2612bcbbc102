/- A run: lex. -/
import Derived.Test.YtlkjicigmhhjbaaGreatDoorNdTls0
set_option linter.unusedVariables false
set_option linter.unusedSimpArgs false
namespace Go.Abs
noncomputable section
namespace Run
open Go.Proofs Go.RowKit
set_option maxHeartbeats 100000000
set_option maxRecDepth 100000
theorem Z7o : rn [] 29 [Xo] (Zla) := by unfold rn; as_aux_lemma => kernel_rfl
end Run
end
end Go.Abs
