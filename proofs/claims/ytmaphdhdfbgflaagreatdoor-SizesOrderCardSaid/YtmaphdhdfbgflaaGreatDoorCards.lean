/-
  DERIVED. GIVEN WITH THE SEED: THE CARDS: each row of YtmaphdhdfbgflaaGreatDoorRows.lean that lists a variable, with what it lists TIED to the program's text (the seventh form; the later family's looks); each row that meets fmt, with fmt's text TOLD by the authors' own Lean function (tested against real Go, not proved from fmt's source: count such statements apart). THE CARD IS WHAT COUNTS. Prove the row's statement (the work); the ties are given (YtmaphdhdfbgflaaGreatDoorTie.lean); close each card by the builder's one call (the guide's Derived/Test/ToyasCard.lean, 'card_holds'). Laid BY PROGRAM, IN A SANDBOX (cutbox-door.mjs). By AI agents, Wed Nov 11 2026. No macro, syntax, notation, axiom, sorry.
-/
import Derived.Test.YtmaphdhdfbgflaaGreatDoorRows
import GoSem.ClaimSeven
namespace Go.Proofs.YtmaphdhdfbgflaaGreatDoor
namespace Rows

/-- THE TIED CARD OF 'calliperlaw12.SizesSums'. -/
def sizesSumsCard : Claim7 := { stood := { row := sizesSumsRow, standIns := [], harness := (true, "6c2845f2f7a0fd4a0be3dcd40d6f8813b22df5aa6c49dc31de922b65867058da"), looks := true }, kinds := [], alts := [], laidByText := true, laidKinds := [.data, .data, .data, .data, .sentinel, .sentinel, .data, .pinned], laidTests := true, laidLooks := .later }
def SizesSumsCardSaid : Prop := Claim7.holds Tryz.pinned (.plain (OpenSpec.ofChange sizesSumsSpec)) sizesSumsCard

/-- THE TIED CARD OF 'calliperlaw12.SizesOrder'. -/
def sizesOrderCard : Claim7 := { stood := { row := sizesOrderRow, standIns := [], harness := (true, "6c2845f2f7a0fd4a0be3dcd40d6f8813b22df5aa6c49dc31de922b65867058da"), looks := true }, kinds := [], alts := [], laidByText := true, laidKinds := [.data, .data, .data, .data, .sentinel, .sentinel, .data, .pinned], laidTests := true, laidLooks := .later }
def SizesOrderCardSaid : Prop := Claim7.holds Tryz.pinned (.plain (OpenSpec.ofChange sizesOrderSpec)) sizesOrderCard

/-- THE SECOND FORM's CARD OF 'calliperlaw12.SizesSums'. -/
def sizesSumsUptoCard : Claim7 := { stood := { row := sizesSumsUptoRow, standIns := [], harness := (true, "6c2845f2f7a0fd4a0be3dcd40d6f8813b22df5aa6c49dc31de922b65867058da"), looks := true }, kinds := [], alts := [], laidByText := true, laidKinds := [.data, .data, .data, .data, .sentinel, .sentinel, .data, .pinned], laidTests := true, laidLooks := .later }
def SizesSumsUptoCardSaid : Prop := Claim7.holds Tryz.pinned (.plain (OpenSpec.upto sizesSumsSpec)) sizesSumsUptoCard

/-- THE SECOND FORM's CARD OF 'calliperlaw12.SizesOrder'. -/
def sizesOrderUptoCard : Claim7 := { stood := { row := sizesOrderUptoRow, standIns := [], harness := (true, "6c2845f2f7a0fd4a0be3dcd40d6f8813b22df5aa6c49dc31de922b65867058da"), looks := true }, kinds := [], alts := [], laidByText := true, laidKinds := [.data, .data, .data, .data, .sentinel, .sentinel, .data, .pinned], laidTests := true, laidLooks := .later }
def SizesOrderUptoCardSaid : Prop := Claim7.holds Tryz.pinned (.plain (OpenSpec.upto sizesOrderSpec)) sizesOrderUptoCard
end Rows
end Go.Proofs.YtmaphdhdfbgflaaGreatDoor
