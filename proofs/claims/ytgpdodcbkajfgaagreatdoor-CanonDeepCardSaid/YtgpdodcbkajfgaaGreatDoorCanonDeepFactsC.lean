/- Closed facts of the law CanonDeep, the last. -/
import Derived.Test.YtgpdodcbkajfgaaGreatDoorRows
import Derived.ProofKit
import Derived.OpenShut
import Derived.ChangeOld
import Derived.LaidMore
import Derived.SevenTiedAt
namespace Go.Proofs.YtgpdodcbkajfgaaGreatDoor.canonDeep
open Go.ChangeShapes Go.WideShapes Go.ChangeAt Go.RowKit
theorem p3 : true = Tryz.prog.looks [] := by kernel_rfl
theorem p4 : ([5].all fun u => !Tryz.prog.wantsStandIn u) = true := by kernel_rfl
theorem p5 : false = Rows.canonDeepRow.goesBy Tryz.prog := by kernel_rfl
end Go.Proofs.YtgpdodcbkajfgaaGreatDoor.canonDeep
