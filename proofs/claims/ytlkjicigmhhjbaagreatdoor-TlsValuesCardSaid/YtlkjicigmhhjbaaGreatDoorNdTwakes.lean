/- A run: wakes. -/
import Derived.Test.YtlkjicigmhhjbaaGreatDoorNdTls0
set_option linter.unusedVariables false
set_option linter.unusedSimpArgs false
namespace Go.Abs
noncomputable section
namespace Run
open Go.Proofs Go.RowKit
set_option maxHeartbeats 100000000
set_option maxRecDepth 100000
theorem Z02 : rn [(16, [Xo], Zep), (50, [ZK], Ziv), (33, [ZK], Zf7), (58, [ZK], iD 11), (84, [ZK], .v (.bool true))] 7 [] (.v (.bool true)) := by unfold rn; as_aux_lemma => kernel_rfl
end Run
end
end Go.Abs
