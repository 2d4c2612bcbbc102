/- Closed facts of the law TlsValues, more. -/
import Derived.Test.YtlkjicigmhhjbaaGreatDoorRows
import Derived.ProofKit
import Derived.OpenShut
import Derived.ChangeOld
import Derived.LaidMore
import Derived.SevenTiedAt
namespace Go.Proofs.YtlkjicigmhhjbaaGreatDoor.tlsValues
open Go.ChangeShapes Go.WideShapes Go.ChangeAt Go.RowKit
theorem p1 : OpenClaim.wfByText (OpenSpec.ofChange Rows.tlsValuesSpec) Rows.tlsValuesRow = true := by kernel_rfl
theorem p2 : Tryz.prog.mainIs = some (true, "19aa511677e0068b4e9ff2157d1d10afab1a78cfd2b23888c2e266d3ee7157fd".toList) := by kernel_rfl
end Go.Proofs.YtlkjicigmhhjbaaGreatDoor.tlsValues
