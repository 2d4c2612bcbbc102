/- The law ElfPair of package calliperlaw25: for every input the call returns true, and each argument reads afterwards as it read before; the condition: the listed package-level variables start as the program's text lays them (the card ties them to that text). -/
import Derived.Test.YthifolidfjpdkaaGreatDoorNdSigns
import Derived.Test.YthifolidfjpdkaaGreatDoorCards
import Derived.Test.YthifolidfjpdkaaGreatDoorTie
import Derived.Test.YthifolidfjpdkaaGreatDoorElfPairLift
import Derived.Test.YthifolidfjpdkaaGreatDoorElfPairFacts
import Derived.Test.YthifolidfjpdkaaGreatDoorElfPairFactsB
import Derived.Test.YthifolidfjpdkaaGreatDoorElfPairFactsC
import Derived.WalkKit
import Derived.ProofKit
import Derived.OpenShut
import Derived.ShutString
import Derived.ChangeOld
import Derived.Below
import Derived.LaidMore
import Derived.Lay
import Derived.SevenTiedAt
import Derived.Stop.Joined
namespace Go.Proofs.YthifolidfjpdkaaGreatDoor.elfPair
open Go.ChangeShapes Go.WideShapes Go.ChangeAt Go.RowKit
open Go.ChangeMaps (open_string shut_string)
set_option linter.unusedVariables false

theorem over : Rows.elfPairRow.holds Tryz.pinned (OpenSpec.ofChange Rows.elfPairSpec) :=
  OpenClaim.holds_of_wide 4 Tryz.f4 rfl rfl rfl rfl rfl rfl rfl ⟨rfl, rfl, rfl, rfl, rfl⟩ rfl rfl rfl rfl rfl named Tryz.func4 closed
    (of_decide_eq_true (by kernel_rfl)) (by unfold Func.isWrapper; first | (rw [if_pos (by decide +kernel)]; kernel_rfl) | (rw [if_neg (by decide +kernel)]; exact ⟨rfl, rfl⟩))
    (fun os started H enc _ => lifted os started H enc)

theorem proved : Rows.ElfPairCardSaid :=
  Claim7.holds_tied_plain_at .later [] [.data, .data, .data, .data, .sentinel, .sentinel, .data, .pinned] true (true, "c05a4d28a56327160ee60b37238fbe8014d8721e71de08bdfff8b10a39ead14f") true over (fun _ h => by cases h) p1 (fun _ h => by cases h) elfPair_row_tie rfl ⟨rfl, rfl⟩ p2 rfl
    (fun f fn hf hfn => by
      obtain rfl : f = 4 := Option.some.inj (named.symm.trans hf) |>.symm
      obtain rfl : fn = Tryz.f4 := (Option.some.inj (Tryz.func4.symm.trans hfn)).symm
      exact ⟨p3, fun j t ht => by
        rw [Tryz.params4] at ht
        have hm : t ∈ [22, 5] := by simpa using Array.mem_of_getElem? ht
        exact (show Tryz.prog.wantsStandIn t = false by simpa using List.all_eq_true.1 p4 t hm)⟩)
    p5
#print axioms proved
end Go.Proofs.YthifolidfjpdkaaGreatDoor.elfPair
