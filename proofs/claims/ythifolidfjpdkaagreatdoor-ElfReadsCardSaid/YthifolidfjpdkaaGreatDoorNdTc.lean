/- A run: show. -/
import Derived.Test.YthifolidfjpdkaaGreatDoorNdElf
set_option linter.unusedVariables false
set_option linter.unusedSimpArgs false
namespace Go.Abs
noncomputable section
namespace Run
open Go.Proofs Go.RowKit
set_option maxHeartbeats 100000000
set_option maxRecDepth 100000
theorem Z03 : rn [(5, [Yk], U2)] 126 [Y3] (Zg2) := by unfold rn; as_aux_lemma => kernel_rfl
end Run
end
end Go.Abs
namespace Go.Abs
noncomputable section
namespace Run
open Go.Proofs Go.RowKit
set_option maxHeartbeats 100000000
set_option maxRecDepth 100000
theorem Zxv : rn [(90, [Y3], .v (.bool true))] 83 [Y3] (Zh1) := by unfold rn; as_aux_lemma => kernel_rfl
end Run
end
end Go.Abs
