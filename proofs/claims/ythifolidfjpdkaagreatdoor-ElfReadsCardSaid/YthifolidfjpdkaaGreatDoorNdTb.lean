/- A run: lex. -/
import Derived.Test.YthifolidfjpdkaaGreatDoorNdElf
set_option linter.unusedVariables false
set_option linter.unusedSimpArgs false
namespace Go.Abs
noncomputable section
namespace Run
open Go.Proofs Go.RowKit
set_option maxHeartbeats 100000000
set_option maxRecDepth 100000
theorem elf_lex : rn [] 17 [Yk] (Zj1) := by unfold rn; as_aux_lemma => kernel_rfl
end Run
end
end Go.Abs
namespace Go.Abs
noncomputable section
namespace Run
open Go.Proofs Go.RowKit
set_option maxHeartbeats 100000000
set_option maxRecDepth 100000
theorem Zxu : rn [(17, [Yk], Zj1)] 5 [Yk] (U2) := by unfold rn; as_aux_lemma => kernel_rfl
end Run
end
end Go.Abs
