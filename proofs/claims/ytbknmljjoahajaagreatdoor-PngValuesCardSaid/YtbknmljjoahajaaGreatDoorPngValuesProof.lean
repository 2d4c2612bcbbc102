/- The law PngValues of package calliperlaw24: for every input the call returns true, and each argument reads afterwards as it read before; the condition: the listed package-level variables start as the program's text lays them (the card ties them to that text). -/
import Derived.Test.YtbknmljjoahajaaGreatDoorNwSigns
import Derived.Test.YtbknmljjoahajaaGreatDoorCards
import Derived.Test.YtbknmljjoahajaaGreatDoorTie
import Derived.Test.YtbknmljjoahajaaGreatDoorPngValuesLift
import Derived.Test.YtbknmljjoahajaaGreatDoorPngValuesFacts
import Derived.Test.YtbknmljjoahajaaGreatDoorPngValuesFactsB
import Derived.Test.YtbknmljjoahajaaGreatDoorPngValuesFactsC
import Derived.WalkKit
import Derived.ProofKit
import Derived.OpenShut
import Derived.ShutString
import Derived.ChangeOld
import Derived.Below
import Derived.LaidMore
import Derived.Lay
import Derived.SevenTiedAt
import Derived.Stop.Joined
namespace Go.Proofs.YtbknmljjoahajaaGreatDoor.pngValues
open Go.ChangeShapes Go.WideShapes Go.ChangeAt Go.RowKit
open Go.ChangeMaps (open_string shut_string)
set_option linter.unusedVariables false

theorem over : Rows.pngValuesRow.holds Tryz.pinned (OpenSpec.ofChange Rows.pngValuesSpec) :=
  OpenClaim.holds_of_wide 6 Tryz.f6 rfl rfl rfl rfl rfl rfl rfl ⟨rfl, rfl, rfl, rfl, rfl⟩ rfl rfl rfl rfl rfl named Tryz.func6 closed
    (of_decide_eq_true (by kernel_rfl)) (by unfold Func.isWrapper; first | (rw [if_pos (by decide +kernel)]; kernel_rfl) | (rw [if_neg (by decide +kernel)]; exact ⟨rfl, rfl⟩))
    (fun os started H enc _ => lifted os started H enc)

theorem proved : Rows.PngValuesCardSaid :=
  Claim7.holds_tied_plain_at .later [] [.data, .data, .data, .data, .sentinel, .sentinel, .data, .pinned] true (true, "cffacb1ecffa15204f6fc425c3321afb21846df43af9ba28ac27a42d7fa7b0f5") true over (fun _ h => by cases h) p1 (fun _ h => by cases h) pngValues_row_tie rfl ⟨rfl, rfl⟩ p2 rfl
    (fun f fn hf hfn => by
      obtain rfl : f = 6 := Option.some.inj (named.symm.trans hf) |>.symm
      obtain rfl : fn = Tryz.f6 := (Option.some.inj (Tryz.func6.symm.trans hfn)).symm
      exact ⟨p3, fun j t ht => by
        rw [Tryz.params6] at ht
        have hm : t ∈ [65, 39, 39] := by simpa using Array.mem_of_getElem? ht
        exact (show Tryz.prog.wantsStandIn t = false by simpa using List.all_eq_true.1 p4 t hm)⟩)
    p5
#print axioms proved
end Go.Proofs.YtbknmljjoahajaaGreatDoor.pngValues
