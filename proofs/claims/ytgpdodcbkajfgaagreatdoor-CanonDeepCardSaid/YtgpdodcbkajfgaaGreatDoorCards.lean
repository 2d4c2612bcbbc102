/-
  DERIVED. GIVEN WITH THE SEED: THE CARDS: each row of YtgpdodcbkajfgaaGreatDoorRows.lean that lists a variable, with what it lists TIED to the program's text (the seventh form; the later family's looks); each row that meets fmt, with fmt's text TOLD by the authors' own Lean function (tested against real Go, not proved from fmt's source: count such statements apart). THE CARD IS WHAT COUNTS. Prove the row's statement (the work); the ties are given (YtgpdodcbkajfgaaGreatDoorTie.lean); close each card by the builder's one call (the guide's Derived/Test/ToyasCard.lean, 'card_holds'). Laid BY PROGRAM, IN A SANDBOX (cutbox-door.mjs). By AI agents, Wed Nov 11 2026. No macro, syntax, notation, axiom, sorry.
-/
import Derived.Test.YtgpdodcbkajfgaaGreatDoorRows
import GoSem.ClaimSeven
namespace Go.Proofs.YtgpdodcbkajfgaaGreatDoor
namespace Rows

/-- THE TIED CARD OF 'calliperlaw12.SizesOf'. -/
def sizesOfCard : Claim7 := { stood := { row := sizesOfRow, standIns := [], harness := (true, "29e66baa85b475d24a667113095f20fe066734a7f3f22e08bf8498098af72e6e"), looks := true }, kinds := [], alts := [], laidByText := true, laidKinds := [.data, .data, .data, .data, .sentinel, .sentinel, .data, .pinned], laidTests := true, laidLooks := .later }
def SizesOfCardSaid : Prop := Claim7.holds Tryz.pinned (.plain (OpenSpec.ofChange sizesOfSpec)) sizesOfCard

/-- THE TIED CARD OF 'calliperlaw12.SizesEmpty'. -/
def sizesEmptyCard : Claim7 := { stood := { row := sizesEmptyRow, standIns := [], harness := (true, "29e66baa85b475d24a667113095f20fe066734a7f3f22e08bf8498098af72e6e"), looks := true }, kinds := [], alts := [], laidByText := true, laidKinds := [.data, .data, .data, .data, .sentinel, .sentinel, .data, .pinned], laidTests := true, laidLooks := .later }
def SizesEmptyCardSaid : Prop := Claim7.holds Tryz.pinned (.plain (OpenSpec.ofChange sizesEmptySpec)) sizesEmptyCard

/-- THE TIED CARD OF 'calliperlaw12.SizesAhead'. -/
def sizesAheadCard : Claim7 := { stood := { row := sizesAheadRow, standIns := [], harness := (true, "29e66baa85b475d24a667113095f20fe066734a7f3f22e08bf8498098af72e6e"), looks := true }, kinds := [], alts := [], laidByText := true, laidKinds := [.data, .data, .data, .data, .sentinel, .sentinel, .data, .pinned], laidTests := true, laidLooks := .later }
def SizesAheadCardSaid : Prop := Claim7.holds Tryz.pinned (.plain (OpenSpec.ofChange sizesAheadSpec)) sizesAheadCard

/-- THE TIED CARD OF 'calliperlaw13.CanonRight'. -/
def canonRightCard : Claim7 := { stood := { row := canonRightRow, standIns := [], harness := (true, "29e66baa85b475d24a667113095f20fe066734a7f3f22e08bf8498098af72e6e"), looks := true }, kinds := [], alts := [], laidByText := true, laidKinds := [.data, .data, .data, .data, .sentinel, .sentinel, .data, .pinned], laidTests := true, laidLooks := .later }
def CanonRightCardSaid : Prop := Claim7.holds Tryz.pinned (.plain (OpenSpec.ofChange canonRightSpec)) canonRightCard

/-- THE TIED CARD OF 'calliperlaw13.CanonClass'. -/
def canonClassCard : Claim7 := { stood := { row := canonClassRow, standIns := [], harness := (true, "29e66baa85b475d24a667113095f20fe066734a7f3f22e08bf8498098af72e6e"), looks := true }, kinds := [], alts := [], laidByText := true, laidKinds := [.data, .data, .data, .data, .sentinel, .sentinel, .data, .pinned], laidTests := true, laidLooks := .later }
def CanonClassCardSaid : Prop := Claim7.holds Tryz.pinned (.plain (OpenSpec.ofChange canonClassSpec)) canonClassCard

/-- THE TIED CARD OF 'calliperlaw13.CanonUnused'. -/
def canonUnusedCard : Claim7 := { stood := { row := canonUnusedRow, standIns := [], harness := (true, "29e66baa85b475d24a667113095f20fe066734a7f3f22e08bf8498098af72e6e"), looks := true }, kinds := [], alts := [], laidByText := true, laidKinds := [.data, .data, .data, .data, .sentinel, .sentinel, .data, .pinned], laidTests := true, laidLooks := .later }
def CanonUnusedCardSaid : Prop := Claim7.holds Tryz.pinned (.plain (OpenSpec.ofChange canonUnusedSpec)) canonUnusedCard

/-- THE TIED CARD OF 'calliperlaw13.CanonDeep'. -/
def canonDeepCard : Claim7 := { stood := { row := canonDeepRow, standIns := [], harness := (true, "29e66baa85b475d24a667113095f20fe066734a7f3f22e08bf8498098af72e6e"), looks := true }, kinds := [], alts := [], laidByText := true, laidKinds := [.data, .data, .data, .data, .sentinel, .sentinel, .data, .pinned], laidTests := true, laidLooks := .later }
def CanonDeepCardSaid : Prop := Claim7.holds Tryz.pinned (.plain (OpenSpec.ofChange canonDeepSpec)) canonDeepCard

/-- THE SECOND FORM's CARD OF 'calliperlaw12.SizesOf'. -/
def sizesOfUptoCard : Claim7 := { stood := { row := sizesOfUptoRow, standIns := [], harness := (true, "29e66baa85b475d24a667113095f20fe066734a7f3f22e08bf8498098af72e6e"), looks := true }, kinds := [], alts := [], laidByText := true, laidKinds := [.data, .data, .data, .data, .sentinel, .sentinel, .data, .pinned], laidTests := true, laidLooks := .later }
def SizesOfUptoCardSaid : Prop := Claim7.holds Tryz.pinned (.plain (OpenSpec.upto sizesOfSpec)) sizesOfUptoCard

/-- THE SECOND FORM's CARD OF 'calliperlaw12.SizesEmpty'. -/
def sizesEmptyUptoCard : Claim7 := { stood := { row := sizesEmptyUptoRow, standIns := [], harness := (true, "29e66baa85b475d24a667113095f20fe066734a7f3f22e08bf8498098af72e6e"), looks := true }, kinds := [], alts := [], laidByText := true, laidKinds := [.data, .data, .data, .data, .sentinel, .sentinel, .data, .pinned], laidTests := true, laidLooks := .later }
def SizesEmptyUptoCardSaid : Prop := Claim7.holds Tryz.pinned (.plain (OpenSpec.upto sizesEmptySpec)) sizesEmptyUptoCard

/-- THE SECOND FORM's CARD OF 'calliperlaw12.SizesAhead'. -/
def sizesAheadUptoCard : Claim7 := { stood := { row := sizesAheadUptoRow, standIns := [], harness := (true, "29e66baa85b475d24a667113095f20fe066734a7f3f22e08bf8498098af72e6e"), looks := true }, kinds := [], alts := [], laidByText := true, laidKinds := [.data, .data, .data, .data, .sentinel, .sentinel, .data, .pinned], laidTests := true, laidLooks := .later }
def SizesAheadUptoCardSaid : Prop := Claim7.holds Tryz.pinned (.plain (OpenSpec.upto sizesAheadSpec)) sizesAheadUptoCard

/-- THE SECOND FORM's CARD OF 'calliperlaw13.CanonRight'. -/
def canonRightUptoCard : Claim7 := { stood := { row := canonRightUptoRow, standIns := [], harness := (true, "29e66baa85b475d24a667113095f20fe066734a7f3f22e08bf8498098af72e6e"), looks := true }, kinds := [], alts := [], laidByText := true, laidKinds := [.data, .data, .data, .data, .sentinel, .sentinel, .data, .pinned], laidTests := true, laidLooks := .later }
def CanonRightUptoCardSaid : Prop := Claim7.holds Tryz.pinned (.plain (OpenSpec.upto canonRightSpec)) canonRightUptoCard

/-- THE SECOND FORM's CARD OF 'calliperlaw13.CanonClass'. -/
def canonClassUptoCard : Claim7 := { stood := { row := canonClassUptoRow, standIns := [], harness := (true, "29e66baa85b475d24a667113095f20fe066734a7f3f22e08bf8498098af72e6e"), looks := true }, kinds := [], alts := [], laidByText := true, laidKinds := [.data, .data, .data, .data, .sentinel, .sentinel, .data, .pinned], laidTests := true, laidLooks := .later }
def CanonClassUptoCardSaid : Prop := Claim7.holds Tryz.pinned (.plain (OpenSpec.upto canonClassSpec)) canonClassUptoCard

/-- THE SECOND FORM's CARD OF 'calliperlaw13.CanonUnused'. -/
def canonUnusedUptoCard : Claim7 := { stood := { row := canonUnusedUptoRow, standIns := [], harness := (true, "29e66baa85b475d24a667113095f20fe066734a7f3f22e08bf8498098af72e6e"), looks := true }, kinds := [], alts := [], laidByText := true, laidKinds := [.data, .data, .data, .data, .sentinel, .sentinel, .data, .pinned], laidTests := true, laidLooks := .later }
def CanonUnusedUptoCardSaid : Prop := Claim7.holds Tryz.pinned (.plain (OpenSpec.upto canonUnusedSpec)) canonUnusedUptoCard

/-- THE SECOND FORM's CARD OF 'calliperlaw13.CanonDeep'. -/
def canonDeepUptoCard : Claim7 := { stood := { row := canonDeepUptoRow, standIns := [], harness := (true, "29e66baa85b475d24a667113095f20fe066734a7f3f22e08bf8498098af72e6e"), looks := true }, kinds := [], alts := [], laidByText := true, laidKinds := [.data, .data, .data, .data, .sentinel, .sentinel, .data, .pinned], laidTests := true, laidLooks := .later }
def CanonDeepUptoCardSaid : Prop := Claim7.holds Tryz.pinned (.plain (OpenSpec.upto canonDeepSpec)) canonDeepUptoCard
end Rows
end Go.Proofs.YtgpdodcbkajfgaaGreatDoor
