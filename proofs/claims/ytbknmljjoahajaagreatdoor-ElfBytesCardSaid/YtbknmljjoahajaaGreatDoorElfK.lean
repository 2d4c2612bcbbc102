/- The fixed examples of layer 25 hold, in every world in which the listed variables lie as they are laid. -/
import Derived.Test.YtbknmljjoahajaaGreatDoorLibS
import Derived.Test.YtbknmljjoahajaaGreatDoorElfL
import Derived.Test.YtbknmljjoahajaaGreatDoorElfP
import Derived.Test.YtbknmljjoahajaaGreatDoorElfR
import Derived.Test.YtbknmljjoahajaaGreatDoorElfW
set_option linter.unusedVariables false
namespace Go.Abs
namespace Run
open Go.Proofs Go.RowKit
theorem sim51 : LibSim Tryz.prog 51 (libRun [elf_text] elf_lexed) glob := libRun_sim (k := 12) told0 tab0_ok glob_tree (enters_of Tryz.func51 (by kernel_rfl) rfl) (by kernel_rfl) elf_lex_run
theorem elf_told1 : Told Tryz.prog glob elf_env1 := told_more told0 sim51
theorem sim19 : LibSim Tryz.prog 19 (libRun [elf_text] elf_parsed) glob := libRun_sim (k := 12) elf_told1 (tab_over TA_ok elf_libs1) glob_tree (enters_of Tryz.func19 (by kernel_rfl) rfl) (by kernel_rfl) elf_parse_run
theorem elf_told2 : Told Tryz.prog glob elf_env2 := told_more told0 sim19
theorem sim54 : LibSim Tryz.prog 54 (libRun [elf_file] (.tup [.str [], .int .i64 0])) glob := libRun_sim (k := 12) elf_told2 (tab_over TA_ok elf_libs2) glob_tree (enters_of Tryz.func54 (by kernel_rfl) rfl) (by kernel_rfl) elf_right_run
theorem sim103 : LibSim Tryz.prog 103 (libRun [elf_file] (.int .i64 1)) glob := libRun_sim (k := 12) elf_told2 (tab_over TA_ok elf_libs2) glob_tree (enters_of Tryz.func103 (by kernel_rfl) rfl) (by kernel_rfl) elf_root_run
theorem elf_told3 : Told Tryz.prog glob elf_env3 := told_more (told_more (told_more told0 sim103) sim54) sim19
/-- The fixed examples. -/
theorem wakes25_any (w : World) (hg : Holds glob w) : Calls Tryz.prog 14 #[] w fun e w' => e = .returned (.bool true) ∧ Below w.heap.size w w' :=
  top_true elf_told3 (tab_over TA_ok elf_libs3) elf_wakes_run hg (enters_of Tryz.func14 (by kernel_rfl) rfl)
theorem holds_below {w w' : World} (hb : Below w.heap.size w w') (hg : Holds glob w) : Holds glob w' := fun b cs o d h1 h2 => by
  obtain ⟨v, hv, hr⟩ := hg b cs o d h1 h2
  have hlt : b < w.heap.size := by have := World.block_lt_of_cell? w _ hv; simpa using this
  exact ⟨v, (hb.cell (p := ⟨b, o, none⟩) hlt).trans hv, hr⟩
end Run
end Go.Abs
