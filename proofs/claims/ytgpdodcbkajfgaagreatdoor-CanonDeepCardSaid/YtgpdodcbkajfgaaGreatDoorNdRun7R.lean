/- Runs. -/
import Derived.Test.YtgpdodcbkajfgaaGreatDoorNdDeep0
set_option linter.unusedVariables false
set_option linter.unusedSimpArgs false
namespace Go.Abs
namespace Run
open Go.Proofs Go.RowKit
set_option maxHeartbeats 100000000
theorem deep7 : Deep 7 := by refine YE (by decide) ?_ ?_ ?_ ?_ ?_ ?_ ?_ ?_ ?_ ?_ ?_ <;> ((try unfold rn); as_aux_lemma => kernel_rfl)
theorem deep15 : Deep 15 := by refine YE (by decide) ?_ ?_ ?_ ?_ ?_ ?_ ?_ ?_ ?_ ?_ ?_ <;> ((try unfold rn); as_aux_lemma => kernel_rfl)
theorem deep23 : Deep 23 := by refine YE (by decide) ?_ ?_ ?_ ?_ ?_ ?_ ?_ ?_ ?_ ?_ ?_ <;> ((try unfold rn); as_aux_lemma => kernel_rfl)
theorem deep31 : Deep 31 := by refine YE (by decide) ?_ ?_ ?_ ?_ ?_ ?_ ?_ ?_ ?_ ?_ ?_ <;> ((try unfold rn); as_aux_lemma => kernel_rfl)
theorem deep39 : Deep 39 := by refine deepHi (by decide) ?_ ?_ ?_ ?_ ?_ ?_ ?_ ?_ ?_ <;> ((try unfold rn); as_aux_lemma => kernel_rfl)
end Run
end Go.Abs
