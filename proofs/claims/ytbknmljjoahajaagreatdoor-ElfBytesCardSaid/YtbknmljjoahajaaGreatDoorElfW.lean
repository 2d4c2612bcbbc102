/- The fixed examples of layer 25, by the reckoner. -/
import Derived.Test.YtbknmljjoahajaaGreatDoorElf0
namespace Go.Abs
namespace Run
open Go.Proofs
noncomputable def elf_libs3 (f : Nat) : Option (List D → H → O D) := bif Nat.beq f 19 then some (libRun [elf_text] elf_parsed) else bif Nat.beq f 54 then some (libRun [elf_file] (.tup [.str [], .int .i64 0])) else bif Nat.beq f 103 then some (libRun [elf_file] (.int .i64 1)) else libs0 f
noncomputable def elf_env3 : Env := envOf Tryz.prog glob elf_libs3
noncomputable def elf_tab3 : Nat → FFn := tover elf_libs3 TA
theorem elf_wakes_run : isT (fcall elf_env3 elf_tab3 100000 14 [] hTop) = true := by kernel_rfl
end Run
end Go.Abs
