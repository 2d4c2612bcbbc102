/- A run by the reckoner. -/
import Derived.Test.YtbknmljjoahajaaGreatDoorNwPng0
set_option linter.unusedVariables false
namespace Go.Abs
namespace Run
open Go.Proofs
theorem png_wakes_run : isT (fcall png_env4 png_tab4 100000 29 [] hTop) = true := by kernel_rfl
end Run
end Go.Abs
