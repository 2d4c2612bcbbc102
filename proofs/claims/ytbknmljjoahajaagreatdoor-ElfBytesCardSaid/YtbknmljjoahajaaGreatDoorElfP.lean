/- The elf text, read by the reckoner. -/
import Derived.Test.YtbknmljjoahajaaGreatDoorElf0
namespace Go.Abs
namespace Run
open Go.Proofs
noncomputable def elf_libs1 (f : Nat) : Option (List D → H → O D) := bif Nat.beq f 51 then some (libRun [elf_text] elf_lexed) else libs0 f
noncomputable def elf_env1 : Env := envOf Tryz.prog glob elf_libs1
noncomputable def elf_tab1 : Nat → FFn := tover elf_libs1 TA
theorem elf_parse_run : isTree (fcall elf_env1 elf_tab1 100000 19 [elf_text] hTop) Tryz.prog 12 elf_parsed = true := by kernel_rfl
end Run
end Go.Abs
