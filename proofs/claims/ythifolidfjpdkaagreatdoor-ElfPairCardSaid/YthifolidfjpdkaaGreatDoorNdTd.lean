/- A run: right. -/
import Derived.Test.YthifolidfjpdkaaGreatDoorNdElf
set_option linter.unusedVariables false
set_option linter.unusedSimpArgs false
namespace Go.Abs
noncomputable section
namespace Run
open Go.Proofs Go.RowKit
set_option maxHeartbeats 100000000
set_option maxRecDepth 100000
theorem Z1f : rn [(83,[Z5],Zgw),(90,[Z5],.v (.bool true)),(126,[Z5],Zim)] 25 [Z5] (Zgw) := by unfold rn; as_aux_lemma => kernel_rfl
end Run
end
end Go.Abs
namespace Go.Abs
noncomputable section
namespace Run
open Go.Proofs Go.RowKit
set_option maxHeartbeats 100000000
set_option maxRecDepth 100000
theorem Z1c : rn [(5,[Y5],VW),(25,[Z5],Zgw),(56,[Z5],iD 1),(8,[.v (.slice none 0 0)],.str [127,69,76,70,2,1,1,0,0,0,0,0,0,0,0,0,1,0,62,0,1,0,0,0,0,0,0,0,0,0,0,0,0,0,0,0,0,0,0,0,64,0,0,0,0,0,0,0,0,0,0,0,64,0,0,0,0,0,64,0,0,0,0,0])] 10 [] (.v (.bool true)) := by unfold rn; as_aux_lemma => kernel_rfl
end Run
end
end Go.Abs
