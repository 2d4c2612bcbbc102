/- A run by the reckoner. -/
import Derived.Test.YtbknmljjoahajaaGreatDoorNwPng0
set_option linter.unusedVariables false
namespace Go.Abs
namespace Run
open Go.Proofs
noncomputable def png_libs1 (f : Nat) : Option (List D → H → O D) := bif Nat.beq f 51 then some (libRun [png_text] png_lexed) else libs0 f
noncomputable def png_env1 : Env := envOf Tryz.prog glob png_libs1
noncomputable def png_tab1 : Nat → FFn := tover png_libs1 TA
theorem png_parse_run : isTree (fcall png_env1 png_tab1 100000 19 [png_text] hTop) Tryz.prog 40 png_parsed = true := by kernel_rfl
end Run
end Go.Abs
