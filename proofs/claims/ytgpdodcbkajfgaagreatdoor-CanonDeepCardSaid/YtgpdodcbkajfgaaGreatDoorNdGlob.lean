/- The listed package-level variables: printed by a program. -/
import Derived.Test.YtgpdodcbkajfgaaGreatDoorNdRun
set_option linter.unusedVariables false
set_option linter.unusedSimpArgs false
namespace Go.Abs
namespace Run
def glob (g : Nat) : Option (List D) := bif Nat.beq g 0 then some [.str [46, 46], .str [61, 61], .str [33, 61], .str [60, 61], .str [62, 61], .str [60, 60], .str [62, 62], .str [38, 38], .str [124, 124], .str [123], .str [125], .str [40], .str [41], .str [91], .str [93], .str [59], .str [58], .str [44], .str [61], .str [60], .str [62], .str [43], .str [45], .str [42], .str [47], .str [37], .str [38], .str [124], .str [33]] else none
end Run
end Go.Abs
