/- The law CanonDeep of package calliperlaw13: for every input the call returns true, and each argument reads afterwards as it read before; the condition: the listed package-level variables start as the program's text lays them (the card ties them to that text). -/
import Derived.Test.YtgpdodcbkajfgaaGreatDoorNdSigns
import Derived.Test.YtgpdodcbkajfgaaGreatDoorCards
import Derived.Test.YtgpdodcbkajfgaaGreatDoorTie
import Derived.Test.YtgpdodcbkajfgaaGreatDoorCanonDeepLift
import Derived.Test.YtgpdodcbkajfgaaGreatDoorCanonDeepFacts
import Derived.Test.YtgpdodcbkajfgaaGreatDoorCanonDeepFactsB
import Derived.Test.YtgpdodcbkajfgaaGreatDoorCanonDeepFactsC
import Derived.WalkKit
import Derived.ProofKit
import Derived.OpenShut
import Derived.ShutString
import Derived.ChangeOld
import Derived.Below
import Derived.LaidMore
import Derived.Lay
import Derived.SevenTiedAt
import Derived.Stop.Joined
namespace Go.Proofs.YtgpdodcbkajfgaaGreatDoor.canonDeep
open Go.ChangeShapes Go.WideShapes Go.ChangeAt Go.RowKit
open Go.ChangeMaps (open_string shut_string)
set_option linter.unusedVariables false

theorem over : Rows.canonDeepRow.holds Tryz.pinned (OpenSpec.ofChange Rows.canonDeepSpec) :=
  OpenClaim.holds_of_wide 9 Tryz.f9 rfl rfl rfl rfl rfl rfl rfl ⟨rfl, rfl, rfl, rfl, rfl⟩ rfl rfl rfl rfl rfl named Tryz.func9 closed
    (of_decide_eq_true (by kernel_rfl)) (by unfold Func.isWrapper; first | (rw [if_pos (by decide +kernel)]; kernel_rfl) | (rw [if_neg (by decide +kernel)]; exact ⟨rfl, rfl⟩))
    (fun os started H enc _ => lifted os started H enc)

theorem proved : Rows.CanonDeepCardSaid :=
  Claim7.holds_tied_plain_at .later [] [.data, .data, .data, .data, .sentinel, .sentinel, .data, .pinned] true (true, "29e66baa85b475d24a667113095f20fe066734a7f3f22e08bf8498098af72e6e") true over (fun _ h => by cases h) p1 (fun _ h => by cases h) canonDeep_row_tie rfl ⟨rfl, rfl⟩ p2 rfl
    (fun f fn hf hfn => by
      obtain rfl : f = 9 := Option.some.inj (named.symm.trans hf) |>.symm
      obtain rfl : fn = Tryz.f9 := (Option.some.inj (Tryz.func9.symm.trans hfn)).symm
      exact ⟨p3, fun j t ht => by
        rw [Tryz.params9] at ht
        have hm : t ∈ [5] := by simpa using Array.mem_of_getElem? ht
        exact (show Tryz.prog.wantsStandIn t = false by simpa using List.all_eq_true.1 p4 t hm)⟩)
    p5
#print axioms proved
end Go.Proofs.YtgpdodcbkajfgaaGreatDoor.canonDeep
