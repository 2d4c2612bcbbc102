/- The fixed examples of layer 25, run by the reckoner. -/
import Derived.Test.YtbknmljjoahajaaGreatDoorElf0
namespace Go.Abs
namespace Run
open Go.Proofs
noncomputable def elf_libs2 (f : Nat) : Option (List D → H → O D) := bif Nat.beq f 19 then some (libRun [elf_text] elf_parsed) else libs0 f
noncomputable def elf_env2 : Env := envOf Tryz.prog glob elf_libs2
noncomputable def elf_tab2 : Nat → FFn := tover elf_libs2 TA
theorem elf_right_run : isTree (fcall elf_env2 elf_tab2 100000 54 [elf_file] hTop) Tryz.prog 12 (.tup [.str [], .int .i64 0]) = true := by kernel_rfl
theorem elf_root_run : isTree (fcall elf_env2 elf_tab2 100000 103 [elf_file] hTop) Tryz.prog 12 (.int .i64 1) = true := by kernel_rfl
end Run
end Go.Abs
