/- A run by the reckoner. -/
import Derived.Test.YtbknmljjoahajaaGreatDoorNwPng0
set_option linter.unusedVariables false
namespace Go.Abs
namespace Run
open Go.Proofs
theorem png_lex_run : isTree (fcall env0 tab0 100000 51 [png_text] hTop) Tryz.prog 12 png_lexed = true := by kernel_rfl
end Run
end Go.Abs
