/- Runs. -/
import Derived.Test.YtgpdodcbkajfgaaGreatDoorNdDeep0
set_option linter.unusedVariables false
set_option linter.unusedSimpArgs false
namespace Go.Abs
namespace Run
open Go.Proofs Go.RowKit
set_option maxHeartbeats 100000000
theorem deep1 : Deep 1 := by refine YE (by decide) ?_ ?_ ?_ ?_ ?_ ?_ ?_ ?_ ?_ ?_ ?_ <;> ((try unfold rn); as_aux_lemma => kernel_rfl)
theorem deep9 : Deep 9 := by refine YE (by decide) ?_ ?_ ?_ ?_ ?_ ?_ ?_ ?_ ?_ ?_ ?_ <;> ((try unfold rn); as_aux_lemma => kernel_rfl)
theorem deep17 : Deep 17 := by refine YE (by decide) ?_ ?_ ?_ ?_ ?_ ?_ ?_ ?_ ?_ ?_ ?_ <;> ((try unfold rn); as_aux_lemma => kernel_rfl)
theorem deep25 : Deep 25 := by refine YE (by decide) ?_ ?_ ?_ ?_ ?_ ?_ ?_ ?_ ?_ ?_ ?_ <;> ((try unfold rn); as_aux_lemma => kernel_rfl)
theorem deep33 : Deep 33 := by refine deepHi (by decide) ?_ ?_ ?_ ?_ ?_ ?_ ?_ ?_ ?_ <;> ((try unfold rn); as_aux_lemma => kernel_rfl)
end Run
end Go.Abs
