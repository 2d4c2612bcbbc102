/-
  DERIVED. GIVEN WITH THE SEED: THE CARDS: each row of YthifolidfjpdkaaGreatDoorRows.lean that lists a variable, with what it lists TIED to the program's text (the seventh form; the later family's looks); each row that meets fmt, with fmt's text TOLD by the authors' own Lean function (tested against real Go, not proved from fmt's source: count such statements apart). THE CARD IS WHAT COUNTS. Prove the row's statement (the work); the ties are given (YthifolidfjpdkaaGreatDoorTie.lean); close each card by the builder's one call (the guide's Derived/Test/ToyasCard.lean, 'card_holds'). Laid BY PROGRAM, IN A SANDBOX (cutbox-door.mjs). By AI agents, Wed Nov 11 2026. No macro, syntax, notation, axiom, sorry.
-/
import Derived.Test.YthifolidfjpdkaaGreatDoorRows
import GoSem.ClaimSeven
namespace Go.Proofs.YthifolidfjpdkaaGreatDoor
namespace Rows

/-- THE TIED CARD OF 'calliperlaw25.ElfReads'. -/
def elfReadsCard : Claim7 := { stood := { row := elfReadsRow, standIns := [], harness := (true, "c05a4d28a56327160ee60b37238fbe8014d8721e71de08bdfff8b10a39ead14f"), looks := true }, kinds := [], alts := [], laidByText := true, laidKinds := [.data, .data, .data, .data, .sentinel, .sentinel, .data, .pinned], laidTests := true, laidLooks := .later }
def ElfReadsCardSaid : Prop := Claim7.holds Tryz.pinned (.plain (OpenSpec.ofChange elfReadsSpec)) elfReadsCard

/-- THE TIED CARD OF 'calliperlaw25.ElfPair'. -/
def elfPairCard : Claim7 := { stood := { row := elfPairRow, standIns := [], harness := (true, "c05a4d28a56327160ee60b37238fbe8014d8721e71de08bdfff8b10a39ead14f"), looks := true }, kinds := [], alts := [], laidByText := true, laidKinds := [.data, .data, .data, .data, .sentinel, .sentinel, .data, .pinned], laidTests := true, laidLooks := .later }
def ElfPairCardSaid : Prop := Claim7.holds Tryz.pinned (.plain (OpenSpec.ofChange elfPairSpec)) elfPairCard

/-- THE SECOND FORM's CARD OF 'calliperlaw25.ElfReads'. -/
def elfReadsUptoCard : Claim7 := { stood := { row := elfReadsUptoRow, standIns := [], harness := (true, "c05a4d28a56327160ee60b37238fbe8014d8721e71de08bdfff8b10a39ead14f"), looks := true }, kinds := [], alts := [], laidByText := true, laidKinds := [.data, .data, .data, .data, .sentinel, .sentinel, .data, .pinned], laidTests := true, laidLooks := .later }
def ElfReadsUptoCardSaid : Prop := Claim7.holds Tryz.pinned (.plain (OpenSpec.upto elfReadsSpec)) elfReadsUptoCard

/-- THE SECOND FORM's CARD OF 'calliperlaw25.ElfPair'. -/
def elfPairUptoCard : Claim7 := { stood := { row := elfPairUptoRow, standIns := [], harness := (true, "c05a4d28a56327160ee60b37238fbe8014d8721e71de08bdfff8b10a39ead14f"), looks := true }, kinds := [], alts := [], laidByText := true, laidKinds := [.data, .data, .data, .data, .sentinel, .sentinel, .data, .pinned], laidTests := true, laidLooks := .later }
def ElfPairUptoCardSaid : Prop := Claim7.holds Tryz.pinned (.plain (OpenSpec.upto elfPairSpec)) elfPairUptoCard
end Rows
end Go.Proofs.YthifolidfjpdkaaGreatDoor
