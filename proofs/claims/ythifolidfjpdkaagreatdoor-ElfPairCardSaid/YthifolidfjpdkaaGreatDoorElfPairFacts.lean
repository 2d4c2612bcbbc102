/- What is read off the program once for the law ElfPair: closed facts. -/
import Derived.Test.YthifolidfjpdkaaGreatDoorRows
import Derived.ProofKit
import Derived.OpenShut
import Derived.ChangeOld
import Derived.LaidMore
import Derived.SevenTiedAt
namespace Go.Proofs.YthifolidfjpdkaaGreatDoor.elfPair
open Go.ChangeShapes Go.WideShapes Go.ChangeAt Go.RowKit
theorem e1 : (Rows.elfPairRow.inPlace == Tryz.prog.inPlace 4) = true := by kernel_rfl
theorem e2 : (Rows.elfPairRow.unfollowed == Tryz.prog.unfollowed 4) = true := by kernel_rfl
theorem e3 : (Rows.elfPairRow.recurses == Tryz.prog.recurses 4) = true := by kernel_rfl
theorem e4 : (Rows.elfPairRow.named == Tryz.prog.varsNamed 4) = true := by kernel_rfl
theorem e5 : (Tryz.prog.stops == []) = true := by kernel_rfl
theorem e6 : (Tryz.prog.stopKnobs == []) = true := by kernel_rfl
theorem e7 : Tryz.prog.mayEnter = true := by kernel_rfl
theorem e8 : Tryz.prog.stopsHeard = true := by kernel_rfl
theorem e9 : mapsRowed Tryz.prog = true := by kernel_rfl
theorem e10 : (Rows.elfPairRow.plainKeys == Tryz.prog.plainKeys) = true := by kernel_rfl
theorem e11 : laidOutB Tryz.prog = true := by kernel_rfl
theorem e12 : (Rows.elfPairRow.lifted == Tryz.prog.liftsFinal) = true := by kernel_rfl
theorem e13 : (Tryz.prog.make == some Rows.elfPairRow.make) = true := by kernel_rfl
theorem closed : joinedFacts Tryz.prog 4 Tryz.f4 Rows.elfPairSpec Rows.elfPairRow = true := by
  unfold joinedFacts
  simp only [e1, e2, e3, e4, e5, e6, e7, e8, e9, e10, e11, e12, e13, Bool.and_true]
  kernel_rfl
theorem named : Tryz.prog.funcNamed "calliper/calliperlaw25.ElfPair" = some 4 := by kernel_rfl
end Go.Proofs.YthifolidfjpdkaaGreatDoor.elfPair
