/- A run: txt. -/
import Derived.Test.YthifolidfjpdkaaGreatDoorNdElf
import Derived.Test.YthifolidfjpdkaaGreatDoorRfX
set_option linter.unusedVariables false
set_option linter.unusedSimpArgs false
namespace Go.Abs
noncomputable section
namespace Run
open Go.Proofs Go.RowKit
set_option maxHeartbeats 100000000
set_option maxRecDepth 100000
theorem Z8p : rn [] 6 [] (Y5) := by unfold rn; as_aux_lemma => kernel_rfl
end Run
end
end Go.Abs
namespace Go.Abs
noncomputable section
namespace Run
open Go.Proofs Go.RowKit
set_option maxHeartbeats 100000000
set_option maxRecDepth 100000
theorem Z8u : rn [(126,[Z5],Zim)] 90 [Z5] (.v (.bool true)) := by unfold rn; as_aux_lemma => kernel_rfl
end Run
end
end Go.Abs
namespace Go.Abs
noncomputable section
namespace Run
open Go.Proofs Go.RowKit
set_option maxHeartbeats 100000000
set_option maxRecDepth 100000
theorem Z5e : rn [(90,[Z5],.v (.bool true))] 56 [Z5] (iD 1) := by unfold rn; as_aux_lemma => kernel_rfl
end Run
end
end Go.Abs
namespace Go.Abs
noncomputable section
namespace Run
open Go.Proofs Go.RowKit
set_option maxHeartbeats 100000000
set_option maxRecDepth 100000
theorem Z1j : rn [] 8 [.v (.slice none 0 0)] (.str [127,69,76,70,2,1,1,0,0,0,0,0,0,0,0,0,1,0,62,0,1,0,0,0,0,0,0,0,0,0,0,0,0,0,0,0,0,0,0,0,64,0,0,0,0,0,0,0,0,0,0,0,64,0,0,0,0,0,64,0,0,0,0,0]) := by unfold rn; as_aux_lemma => kernel_rfl
end Run
end
end Go.Abs
namespace Go.Abs
noncomputable section
namespace Run
open Go.Proofs Go.RowKit
set_option maxHeartbeats 100000000
set_option maxRecDepth 100000
theorem Z5f : ((List.range ZS.es.length).all fun i => Zjq (ZI (envO []) (tabO []) 100000 233 [Zr4 Zs5 ZS.es,iD i] UM) Go.Proofs.Tryz.prog 40 (.v (.bool true))) = true := by as_aux_lemma => kernel_rfl
end Run
end
end Go.Abs
