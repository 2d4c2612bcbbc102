/- Closed facts of the law ElfPair, the last. -/
import Derived.Test.YthifolidfjpdkaaGreatDoorRows
import Derived.ProofKit
import Derived.OpenShut
import Derived.ChangeOld
import Derived.LaidMore
import Derived.SevenTiedAt
namespace Go.Proofs.YthifolidfjpdkaaGreatDoor.elfPair
open Go.ChangeShapes Go.WideShapes Go.ChangeAt Go.RowKit
theorem p3 : true = Tryz.prog.looks [] := by kernel_rfl
theorem p4 : ([22, 5].all fun u => !Tryz.prog.wantsStandIn u) = true := by kernel_rfl
theorem p5 : false = Rows.elfPairRow.goesBy Tryz.prog := by kernel_rfl
end Go.Proofs.YthifolidfjpdkaaGreatDoor.elfPair
