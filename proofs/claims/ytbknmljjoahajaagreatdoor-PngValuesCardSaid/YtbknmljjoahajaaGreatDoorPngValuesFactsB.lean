/- Closed facts of the law PngValues, more. -/
import Derived.Test.YtbknmljjoahajaaGreatDoorRows
import Derived.ProofKit
import Derived.OpenShut
import Derived.ChangeOld
import Derived.LaidMore
import Derived.SevenTiedAt
namespace Go.Proofs.YtbknmljjoahajaaGreatDoor.pngValues
open Go.ChangeShapes Go.WideShapes Go.ChangeAt Go.RowKit
theorem p1 : OpenClaim.wfByText (OpenSpec.ofChange Rows.pngValuesSpec) Rows.pngValuesRow = true := by kernel_rfl
theorem p2 : Tryz.prog.mainIs = some (true, "cffacb1ecffa15204f6fc425c3321afb21846df43af9ba28ac27a42d7fa7b0f5".toList) := by kernel_rfl
end Go.Proofs.YtbknmljjoahajaaGreatDoor.pngValues
