/- The fixed examples of layer 12, run on the reckoner. -/
import Derived.Test.YtmaphdhdfbgflaaGreatDoorTable
set_option linter.unusedVariables false
namespace Go.Abs
namespace Run
theorem wakes_run : isT (fcall (env Go.Proofs.Tryz.prog) (TT Go.Proofs.Tryz.prog) 100000 5 [] hTop) = true := by kernel_rfl
end Run
end Go.Abs
