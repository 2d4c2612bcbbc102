/- The texts of tls. -/
import Derived.Test.YtlkjicigmhhjbaaGreatDoorNdTls0
set_option linter.unusedVariables false
set_option linter.unusedSimpArgs false
namespace Go.Abs
noncomputable section
namespace Run
open Go.Proofs Go.RowKit
set_option maxHeartbeats 100000000
set_option maxRecDepth 100000
theorem tls_t8 : rn [] 8 [] Xo := by unfold rn; as_aux_lemma => kernel_rfl
theorem tls_t9 : rn [] 9 [] Xo := by unfold rn; as_aux_lemma => kernel_rfl
end Run
end
end Go.Abs
namespace Go.Abs
noncomputable section
namespace Run
open Go.Proofs Go.RowKit
set_option maxHeartbeats 100000000
set_option maxRecDepth 100000
theorem Z7n : rn [(121, [ZK], Zg6)] 84 [ZK] (.v (.bool true)) := by unfold rn; as_aux_lemma => kernel_rfl
end Run
end
end Go.Abs
namespace Go.Abs
noncomputable section
namespace Run
open Go.Proofs Go.RowKit
set_option maxHeartbeats 100000000
set_option maxRecDepth 100000
theorem Z3f : rn [(84, [ZK], .v (.bool true))] 58 [ZK] (iD 11) := by unfold rn; as_aux_lemma => kernel_rfl
end Run
end
end Go.Abs
namespace Go.Abs
noncomputable section
namespace Run
open Go.Proofs Go.RowKit
set_option maxHeartbeats 100000000
set_option maxRecDepth 100000
theorem Z06 : ((List.range 12).all fun i => Zp0 (Xr (envO []) (tabO []) 100000 79 [ZK, iD i] Za9) Go.Proofs.Tryz.prog 40 (nmD (Zbl i))) = true := by as_aux_lemma => kernel_rfl
end Run
end
end Go.Abs
namespace Go.Abs
noncomputable section
namespace Run
open Go.Proofs Go.RowKit
set_option maxHeartbeats 100000000
set_option maxRecDepth 100000
theorem tls_of : rn [(50, [ZK], Ziv), (51, [ZK], Zok), (58, [ZK], iD 11), (84, [ZK], .v (.bool true))] 33 [ZK] (Zf7) := by unfold rn; as_aux_lemma => kernel_rfl
end Run
end
end Go.Abs
