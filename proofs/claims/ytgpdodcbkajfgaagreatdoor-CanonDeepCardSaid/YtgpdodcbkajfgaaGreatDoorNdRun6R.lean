/- Runs. -/
import Derived.Test.YtgpdodcbkajfgaaGreatDoorNdDeep0
set_option linter.unusedVariables false
set_option linter.unusedSimpArgs false
namespace Go.Abs
namespace Run
open Go.Proofs Go.RowKit
set_option maxHeartbeats 100000000
theorem deep6 : Deep 6 := by refine YE (by decide) ?_ ?_ ?_ ?_ ?_ ?_ ?_ ?_ ?_ ?_ ?_ <;> ((try unfold rn); as_aux_lemma => kernel_rfl)
theorem deep14 : Deep 14 := by refine YE (by decide) ?_ ?_ ?_ ?_ ?_ ?_ ?_ ?_ ?_ ?_ ?_ <;> ((try unfold rn); as_aux_lemma => kernel_rfl)
theorem deep22 : Deep 22 := by refine YE (by decide) ?_ ?_ ?_ ?_ ?_ ?_ ?_ ?_ ?_ ?_ ?_ <;> ((try unfold rn); as_aux_lemma => kernel_rfl)
theorem deep30 : Deep 30 := by refine YE (by decide) ?_ ?_ ?_ ?_ ?_ ?_ ?_ ?_ ?_ ?_ ?_ <;> ((try unfold rn); as_aux_lemma => kernel_rfl)
theorem deep38 : Deep 38 := by refine deepHi (by decide) ?_ ?_ ?_ ?_ ?_ ?_ ?_ ?_ ?_ <;> ((try unfold rn); as_aux_lemma => kernel_rfl)
end Run
end Go.Abs
