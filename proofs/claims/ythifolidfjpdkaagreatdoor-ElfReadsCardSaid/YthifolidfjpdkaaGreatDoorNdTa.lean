/- A run: txt. -/
import Derived.Test.YthifolidfjpdkaaGreatDoorNdElf
import Derived.Test.YthifolidfjpdkaaGreatDoorRfX
set_option linter.unusedVariables false
set_option linter.unusedSimpArgs false
namespace Go.Abs
noncomputable section
namespace Run
open Go.Proofs Go.RowKit
set_option maxHeartbeats 100000000
set_option maxRecDepth 100000
theorem elf_txt : rn [] 6 [] (Yk) := by unfold rn; as_aux_lemma => kernel_rfl
end Run
end
end Go.Abs
namespace Go.Abs
noncomputable section
namespace Run
open Go.Proofs Go.RowKit
set_option maxHeartbeats 100000000
set_option maxRecDepth 100000
theorem elf_may : rn [(126, [Y3], Zg2)] 90 [Y3] (.v (.bool true)) := by unfold rn; as_aux_lemma => kernel_rfl
end Run
end
end Go.Abs
namespace Go.Abs
noncomputable section
namespace Run
open Go.Proofs Go.RowKit
set_option maxHeartbeats 100000000
set_option maxRecDepth 100000
theorem Z04 : rn [(90, [Y3], .v (.bool true))] 56 [Y3] (iD 1) := by unfold rn; as_aux_lemma => kernel_rfl
end Run
end
end Go.Abs
namespace Go.Abs
noncomputable section
namespace Run
open Go.Proofs Go.RowKit
set_option maxHeartbeats 100000000
set_option maxRecDepth 100000
theorem Zxw : rn [] 8 [.v (.slice none 0 0)] (.str [127,69,76,70,2,1,1,0,0,0,0,0,0,0,0,0,1,0,62,0,1,0,0,0,0,0,0,0,0,0,0,0,0,0,0,0,0,0,0,0,64,0,0,0,0,0,0,0,0,0,0,0,64,0,0,0,0,0,64,0,0,0,0,0]) := by unfold rn; as_aux_lemma => kernel_rfl
end Run
end
end Go.Abs
namespace Go.Abs
noncomputable section
namespace Run
open Go.Proofs Go.RowKit
set_option maxHeartbeats 100000000
set_option maxRecDepth 100000
theorem Z06 : ((List.range Y4.es.length).all fun i => Zmt (ZY (envO []) (tabO []) 100000 233 [Zqr Zsu Y4.es, iD i] Zcf) Go.Proofs.Tryz.prog 40 (.v (.bool true))) = true := by as_aux_lemma => kernel_rfl
end Run
end
end Go.Abs
