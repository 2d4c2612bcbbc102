/- Runs. -/
import Derived.Test.YtgpdodcbkajfgaaGreatDoorNdDeep0
set_option linter.unusedVariables false
set_option linter.unusedSimpArgs false
namespace Go.Abs
namespace Run
open Go.Proofs Go.RowKit
set_option maxHeartbeats 100000000
theorem deep2 : Deep 2 := by refine YE (by decide) ?_ ?_ ?_ ?_ ?_ ?_ ?_ ?_ ?_ ?_ ?_ <;> ((try unfold rn); as_aux_lemma => kernel_rfl)
theorem deep10 : Deep 10 := by refine YE (by decide) ?_ ?_ ?_ ?_ ?_ ?_ ?_ ?_ ?_ ?_ ?_ <;> ((try unfold rn); as_aux_lemma => kernel_rfl)
theorem deep18 : Deep 18 := by refine YE (by decide) ?_ ?_ ?_ ?_ ?_ ?_ ?_ ?_ ?_ ?_ ?_ <;> ((try unfold rn); as_aux_lemma => kernel_rfl)
theorem deep26 : Deep 26 := by refine YE (by decide) ?_ ?_ ?_ ?_ ?_ ?_ ?_ ?_ ?_ ?_ ?_ <;> ((try unfold rn); as_aux_lemma => kernel_rfl)
theorem deep34 : Deep 34 := by refine deepHi (by decide) ?_ ?_ ?_ ?_ ?_ ?_ ?_ ?_ ?_ <;> ((try unfold rn); as_aux_lemma => kernel_rfl)
end Run
end Go.Abs
