/- Closed facts of the law ElfPair, more. -/
import Derived.Test.YthifolidfjpdkaaGreatDoorRows
import Derived.ProofKit
import Derived.OpenShut
import Derived.ChangeOld
import Derived.LaidMore
import Derived.SevenTiedAt
namespace Go.Proofs.YthifolidfjpdkaaGreatDoor.elfPair
open Go.ChangeShapes Go.WideShapes Go.ChangeAt Go.RowKit
theorem p1 : OpenClaim.wfByText (OpenSpec.ofChange Rows.elfPairSpec) Rows.elfPairRow = true := by kernel_rfl
theorem p2 : Tryz.prog.mainIs = some (true, "c05a4d28a56327160ee60b37238fbe8014d8721e71de08bdfff8b10a39ead14f".toList) := by kernel_rfl
end Go.Proofs.YthifolidfjpdkaaGreatDoor.elfPair
