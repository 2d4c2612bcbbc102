/- Closed facts of the law PngValues, the last. -/
import Derived.Test.YtbknmljjoahajaaGreatDoorRows
import Derived.ProofKit
import Derived.OpenShut
import Derived.ChangeOld
import Derived.LaidMore
import Derived.SevenTiedAt
namespace Go.Proofs.YtbknmljjoahajaaGreatDoor.pngValues
open Go.ChangeShapes Go.WideShapes Go.ChangeAt Go.RowKit
theorem p3 : true = Tryz.prog.looks [] := by kernel_rfl
theorem p4 : ([65, 39, 39].all fun u => !Tryz.prog.wantsStandIn u) = true := by kernel_rfl
theorem p5 : false = Rows.pngValuesRow.goesBy Tryz.prog := by kernel_rfl
end Go.Proofs.YtbknmljjoahajaaGreatDoor.pngValues
