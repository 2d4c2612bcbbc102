/- The listed package-level variables: printed by a program. -/
import Derived.Test.YthifolidfjpdkaaGreatDoorNdRun
set_option linter.unusedVariables false
set_option linter.unusedSimpArgs false
namespace Go.Abs
noncomputable section
namespace Run
def glob (g : Nat) : Option (List D) := bif Nat.beq g 0 then some [.str [46,46],.str [61,61],.str [33,61],.str [60,61],.str [62,61],.str [60,60],.str [62,62],.str [38,38],.str [124,124],.str [123],.str [125],.str [40],.str [41],.str [91],.str [93],.str [59],.str [58],.str [44],.str [61],.str [60],.str [62],.str [43],.str [45],.str [42],.str [47],.str [37],.str [38],.str [124],.str [33]] else bif Nat.beq g 6 then some [.int .u64 (.ofNat 1),.int .u64 (.ofNat 10),.int .u64 (.ofNat 100),.int .u64 (.ofNat 1000),.int .u64 (.ofNat 10000),.int .u64 (.ofNat 100000),.int .u64 (.ofNat 1000000),.int .u64 (.ofNat 10000000),.int .u64 (.ofNat 100000000),.int .u64 (.ofNat 1000000000),.int .u64 (.ofNat 10000000000),.int .u64 (.ofNat 100000000000),.int .u64 (.ofNat 1000000000000),.int .u64 (.ofNat 10000000000000),.int .u64 (.ofNat 100000000000000),.int .u64 (.ofNat 1000000000000000),.int .u64 (.ofNat 10000000000000000),.int .u64 (.ofNat 100000000000000000),.int .u64 (.ofNat 1000000000000000000),.int .u64 (.ofNat 10000000000000000000)] else none
end Run
end
end Go.Abs
