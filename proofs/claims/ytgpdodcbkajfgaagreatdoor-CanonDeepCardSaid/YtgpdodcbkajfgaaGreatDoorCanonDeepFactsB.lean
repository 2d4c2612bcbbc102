/- Closed facts of the law CanonDeep, more. -/
import Derived.Test.YtgpdodcbkajfgaaGreatDoorRows
import Derived.ProofKit
import Derived.OpenShut
import Derived.ChangeOld
import Derived.LaidMore
import Derived.SevenTiedAt
namespace Go.Proofs.YtgpdodcbkajfgaaGreatDoor.canonDeep
open Go.ChangeShapes Go.WideShapes Go.ChangeAt Go.RowKit
theorem p1 : OpenClaim.wfByText (OpenSpec.ofChange Rows.canonDeepSpec) Rows.canonDeepRow = true := by kernel_rfl
theorem p2 : Tryz.prog.mainIs = some (true, "29e66baa85b475d24a667113095f20fe066734a7f3f22e08bf8498098af72e6e".toList) := by kernel_rfl
end Go.Proofs.YtgpdodcbkajfgaaGreatDoor.canonDeep
