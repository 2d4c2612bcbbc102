/- A run: lex. -/
import Derived.Test.YthifolidfjpdkaaGreatDoorNdElf
set_option linter.unusedVariables false
set_option linter.unusedSimpArgs false
namespace Go.Abs
noncomputable section
namespace Run
open Go.Proofs Go.RowKit
set_option maxHeartbeats 100000000
set_option maxRecDepth 100000
theorem Z8v : rn [] 17 [Y5] (Zlx) := by unfold rn; as_aux_lemma => kernel_rfl
end Run
end
end Go.Abs
namespace Go.Abs
noncomputable section
namespace Run
open Go.Proofs Go.RowKit
set_option maxHeartbeats 100000000
set_option maxRecDepth 100000
theorem Z1g : rn [(17,[Y5],Zlx)] 5 [Y5] (VW) := by unfold rn; as_aux_lemma => kernel_rfl
end Run
end
end Go.Abs
namespace Go.Abs
noncomputable section
namespace Run
open Go.Proofs Go.RowKit
set_option maxHeartbeats 100000000
set_option maxRecDepth 100000
theorem Z5c : rn [(5,[Y5],VW)] 126 [Z5] (Zim) := by unfold rn; as_aux_lemma => kernel_rfl
end Run
end
end Go.Abs
namespace Go.Abs
noncomputable section
namespace Run
open Go.Proofs Go.RowKit
set_option maxHeartbeats 100000000
set_option maxRecDepth 100000
theorem Z1i : rn [(90,[Z5],.v (.bool true))] 83 [Z5] (Zgw) := by unfold rn; as_aux_lemma => kernel_rfl
end Run
end
end Go.Abs
