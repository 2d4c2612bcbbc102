/- Runs. -/
import Derived.Test.YtgpdodcbkajfgaaGreatDoorNdDeep0
set_option linter.unusedVariables false
set_option linter.unusedSimpArgs false
namespace Go.Abs
namespace Run
open Go.Proofs Go.RowKit
set_option maxHeartbeats 100000000
theorem deep0 : Deep 0 := by refine YE (by decide) ?_ ?_ ?_ ?_ ?_ ?_ ?_ ?_ ?_ ?_ ?_ <;> ((try unfold rn); as_aux_lemma => kernel_rfl)
theorem deep8 : Deep 8 := by refine YE (by decide) ?_ ?_ ?_ ?_ ?_ ?_ ?_ ?_ ?_ ?_ ?_ <;> ((try unfold rn); as_aux_lemma => kernel_rfl)
theorem deep16 : Deep 16 := by refine YE (by decide) ?_ ?_ ?_ ?_ ?_ ?_ ?_ ?_ ?_ ?_ ?_ <;> ((try unfold rn); as_aux_lemma => kernel_rfl)
theorem deep24 : Deep 24 := by refine YE (by decide) ?_ ?_ ?_ ?_ ?_ ?_ ?_ ?_ ?_ ?_ ?_ <;> ((try unfold rn); as_aux_lemma => kernel_rfl)
theorem deep32 : Deep 32 := by refine deepHi (by decide) ?_ ?_ ?_ ?_ ?_ ?_ ?_ ?_ ?_ <;> ((try unfold rn); as_aux_lemma => kernel_rfl)
end Run
end Go.Abs
