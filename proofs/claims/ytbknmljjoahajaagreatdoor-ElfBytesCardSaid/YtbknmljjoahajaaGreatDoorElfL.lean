/- The elf text, parted into words by the reckoner. -/
import Derived.Test.YtbknmljjoahajaaGreatDoorElf0
namespace Go.Abs
namespace Run
open Go.Proofs
theorem elf_lex_run : isTree (fcall env0 tab0 100000 51 [elf_text] hTop) Tryz.prog 12 elf_lexed = true := by kernel_rfl
end Run
end Go.Abs
