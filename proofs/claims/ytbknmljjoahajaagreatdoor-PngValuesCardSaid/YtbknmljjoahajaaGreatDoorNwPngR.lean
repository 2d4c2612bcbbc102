/- A run by the reckoner. -/
import Derived.Test.YtbknmljjoahajaaGreatDoorNwPng0
set_option linter.unusedVariables false
namespace Go.Abs
namespace Run
open Go.Proofs
noncomputable def png_libs2 (f : Nat) : Option (List D → H → O D) := bif Nat.beq f 19 then some (libRun [png_text] png_parsed) else libs0 f
noncomputable def png_env2 : Env := envOf Tryz.prog glob png_libs2
noncomputable def png_tab2 : Nat → FFn := tover png_libs2 TA
theorem png_show_run : isTree (fcall png_env2 png_tab2 100000 181 [png_file] hTop) Tryz.prog 40 png_shown = true := by kernel_rfl
end Run
end Go.Abs
namespace Go.Abs
namespace Run
open Go.Proofs
theorem png_right_run : isTree (fcall png_env3 png_tab3 100000 54 [png_file] hTop) Tryz.prog 40 (.tup [.str [], .int .i64 0]) = true := by kernel_rfl
theorem png_root_run : isTree (fcall png_env3 png_tab3 100000 103 [png_file] hTop) Tryz.prog 40 (.int .i64 2) = true := by kernel_rfl
end Run
end Go.Abs
namespace Go.Abs
namespace Run
open Go.Proofs
theorem png_canon_run : isTree (fcall png_env3 png_tab3 100000 24 [png_file] hTop) Tryz.prog 40 (.tup [.agg [.v (.bool true), .v (.bool true), .v (.slice none 0 0), .v (.slice none 0 0), .int .i64 (.ofNat 3)], .int .i64 (.ofNat 0)]) = true := by kernel_rfl
end Run
end Go.Abs
namespace Go.Abs
namespace Run
open Go.Proofs
theorem png_named0 : isTree (fcall env0 tab0 100000 106 [png_file, .int .i64 (.ofNat 0)] hTop) Tryz.prog 40 (.v (.slice none 0 0)) = true := by kernel_rfl
theorem png_named1 : isTree (fcall env0 tab0 100000 106 [png_file, .int .i64 (.ofNat 1)] hTop) Tryz.prog 40 (.sl 0 1 [.int .i64 (.ofNat 0)]) = true := by kernel_rfl
theorem png_named2 : isTree (fcall env0 tab0 100000 106 [png_file, .int .i64 (.ofNat 2)] hTop) Tryz.prog 40 (.sl 0 1 [.int .i64 (.ofNat 1)]) = true := by kernel_rfl
end Run
end Go.Abs
