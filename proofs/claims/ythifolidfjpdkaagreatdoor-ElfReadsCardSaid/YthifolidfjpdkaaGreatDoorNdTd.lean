/- A run: right. -/
import Derived.Test.YthifolidfjpdkaaGreatDoorNdElf
set_option linter.unusedVariables false
set_option linter.unusedSimpArgs false
namespace Go.Abs
noncomputable section
namespace Run
open Go.Proofs Go.RowKit
set_option maxHeartbeats 100000000
set_option maxRecDepth 100000
theorem Zxt : rn [(83, [Y3], Zh1), (90, [Y3], .v (.bool true)), (126, [Y3], Zg2)] 25 [Y3] (Zh1) := by unfold rn; as_aux_lemma => kernel_rfl
end Run
end
end Go.Abs
namespace Go.Abs
noncomputable section
namespace Run
open Go.Proofs Go.RowKit
set_option maxHeartbeats 100000000
set_option maxRecDepth 100000
theorem Zxs : rn [(5, [Yk], U2), (25, [Y3], Zh1), (56, [Y3], iD 1), (8, [.v (.slice none 0 0)], .str [127,69,76,70,2,1,1,0,0,0,0,0,0,0,0,0,1,0,62,0,1,0,0,0,0,0,0,0,0,0,0,0,0,0,0,0,0,0,0,0,64,0,0,0,0,0,0,0,0,0,0,0,64,0,0,0,0,0,64,0,0,0,0,0])] 10 [] (.v (.bool true)) := by unfold rn; as_aux_lemma => kernel_rfl
end Run
end
end Go.Abs
