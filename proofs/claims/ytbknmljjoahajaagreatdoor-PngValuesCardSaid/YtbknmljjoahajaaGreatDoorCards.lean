/-
  DERIVED. GIVEN WITH THE SEED: THE CARDS: each row of YtbknmljjoahajaaGreatDoorRows.lean that lists a variable, with what it lists TIED to the program's text (the seventh form; the later family's looks); each row that meets fmt, with fmt's text TOLD by the authors' own Lean function (tested against real Go, not proved from fmt's source: count such statements apart). THE CARD IS WHAT COUNTS. Prove the row's statement (the work); the ties are given (YtbknmljjoahajaaGreatDoorTie.lean); close each card by the builder's one call (the guide's Derived/Test/ToyasCard.lean, 'card_holds'). Laid BY PROGRAM, IN A SANDBOX (cutbox-door.mjs). By AI agents, Wed Nov 11 2026. No macro, syntax, notation, axiom, sorry.
-/
import Derived.Test.YtbknmljjoahajaaGreatDoorRows
import GoSem.ClaimSeven
namespace Go.Proofs.YtbknmljjoahajaaGreatDoor
namespace Rows

/-- THE TIED CARD OF 'calliperlaw25.ElfBytes'. -/
def elfBytesCard : Claim7 := { stood := { row := elfBytesRow, standIns := [], harness := (true, "cffacb1ecffa15204f6fc425c3321afb21846df43af9ba28ac27a42d7fa7b0f5"), looks := true }, kinds := [], alts := [], laidByText := true, laidKinds := [.data, .data, .data, .data, .sentinel, .sentinel, .data, .pinned], laidTests := true, laidLooks := .later }
def ElfBytesCardSaid : Prop := Claim7.holds Tryz.pinned (.plain (OpenSpec.ofChange elfBytesSpec)) elfBytesCard

/-- THE TIED CARD OF 'calliperlaw25.ElfReads'. -/
def elfReadsCard : Claim7 := { stood := { row := elfReadsRow, standIns := [], harness := (true, "cffacb1ecffa15204f6fc425c3321afb21846df43af9ba28ac27a42d7fa7b0f5"), looks := true }, kinds := [], alts := [], laidByText := true, laidKinds := [.data, .data, .data, .data, .sentinel, .sentinel, .data, .pinned], laidTests := true, laidLooks := .later }
def ElfReadsCardSaid : Prop := Claim7.holds Tryz.pinned (.plain (OpenSpec.ofChange elfReadsSpec)) elfReadsCard

/-- THE TIED CARD OF 'calliperlaw25.ElfPair'. -/
def elfPairCard : Claim7 := { stood := { row := elfPairRow, standIns := [], harness := (true, "cffacb1ecffa15204f6fc425c3321afb21846df43af9ba28ac27a42d7fa7b0f5"), looks := true }, kinds := [], alts := [], laidByText := true, laidKinds := [.data, .data, .data, .data, .sentinel, .sentinel, .data, .pinned], laidTests := true, laidLooks := .later }
def ElfPairCardSaid : Prop := Claim7.holds Tryz.pinned (.plain (OpenSpec.ofChange elfPairSpec)) elfPairCard

/-- THE TIED CARD OF 'calliperlaw24.PngValues'. -/
def pngValuesCard : Claim7 := { stood := { row := pngValuesRow, standIns := [], harness := (true, "cffacb1ecffa15204f6fc425c3321afb21846df43af9ba28ac27a42d7fa7b0f5"), looks := true }, kinds := [], alts := [], laidByText := true, laidKinds := [.data, .data, .data, .data, .sentinel, .sentinel, .data, .pinned], laidTests := true, laidLooks := .later }
def PngValuesCardSaid : Prop := Claim7.holds Tryz.pinned (.plain (OpenSpec.ofChange pngValuesSpec)) pngValuesCard

/-- THE TIED CARD OF 'calliperlaw24.PngCut'. -/
def pngCutCard : Claim7 := { stood := { row := pngCutRow, standIns := [], harness := (true, "cffacb1ecffa15204f6fc425c3321afb21846df43af9ba28ac27a42d7fa7b0f5"), looks := true }, kinds := [], alts := [], laidByText := true, laidKinds := [.data, .data, .data, .data, .sentinel, .sentinel, .data, .pinned], laidTests := true, laidLooks := .later }
def PngCutCardSaid : Prop := Claim7.holds Tryz.pinned (.plain (OpenSpec.ofChange pngCutSpec)) pngCutCard

/-- THE TIED CARD OF 'calliperlaw24.PngImages'. -/
def pngImagesCard : Claim7 := { stood := { row := pngImagesRow, standIns := [], harness := (true, "cffacb1ecffa15204f6fc425c3321afb21846df43af9ba28ac27a42d7fa7b0f5"), looks := true }, kinds := [], alts := [], laidByText := true, laidKinds := [.data, .data, .data, .data, .sentinel, .sentinel, .data, .pinned], laidTests := true, laidLooks := .later }
def PngImagesCardSaid : Prop := Claim7.holds Tryz.pinned (.plain (OpenSpec.ofChange pngImagesSpec)) pngImagesCard

/-- THE TIED CARD OF 'calliperlaw24.PngBent'. -/
def pngBentCard : Claim7 := { stood := { row := pngBentRow, standIns := [], harness := (true, "cffacb1ecffa15204f6fc425c3321afb21846df43af9ba28ac27a42d7fa7b0f5"), looks := true }, kinds := [], alts := [], laidByText := true, laidKinds := [.data, .data, .data, .data, .sentinel, .sentinel, .data, .pinned], laidTests := true, laidLooks := .later }
def PngBentCardSaid : Prop := Claim7.holds Tryz.pinned (.plain (OpenSpec.ofChange pngBentSpec)) pngBentCard

/-- THE TIED CARD OF 'calliperlaw23.TlsValues'. -/
def tlsValuesCard : Claim7 := { stood := { row := tlsValuesRow, standIns := [], harness := (true, "cffacb1ecffa15204f6fc425c3321afb21846df43af9ba28ac27a42d7fa7b0f5"), looks := true }, kinds := [], alts := [], laidByText := true, laidKinds := [.data, .data, .data, .data, .sentinel, .sentinel, .data, .pinned], laidTests := true, laidLooks := .later }
def TlsValuesCardSaid : Prop := Claim7.holds Tryz.pinned (.plain (OpenSpec.ofChange tlsValuesSpec)) tlsValuesCard

/-- THE TIED CARD OF 'calliperlaw23.TlsBent'. -/
def tlsBentCard : Claim7 := { stood := { row := tlsBentRow, standIns := [], harness := (true, "cffacb1ecffa15204f6fc425c3321afb21846df43af9ba28ac27a42d7fa7b0f5"), looks := true }, kinds := [], alts := [], laidByText := true, laidKinds := [.data, .data, .data, .data, .sentinel, .sentinel, .data, .pinned], laidTests := true, laidLooks := .later }
def TlsBentCardSaid : Prop := Claim7.holds Tryz.pinned (.plain (OpenSpec.ofChange tlsBentSpec)) tlsBentCard

/-- THE TIED CARD OF 'calliperlaw23.TlsStreams'. -/
def tlsStreamsCard : Claim7 := { stood := { row := tlsStreamsRow, standIns := [], harness := (true, "cffacb1ecffa15204f6fc425c3321afb21846df43af9ba28ac27a42d7fa7b0f5"), looks := true }, kinds := [], alts := [], laidByText := true, laidKinds := [.data, .data, .data, .data, .sentinel, .sentinel, .data, .pinned], laidTests := true, laidLooks := .later }
def TlsStreamsCardSaid : Prop := Claim7.holds Tryz.pinned (.plain (OpenSpec.ofChange tlsStreamsSpec)) tlsStreamsCard

/-- THE SECOND FORM's CARD OF 'calliperlaw25.ElfBytes'. -/
def elfBytesUptoCard : Claim7 := { stood := { row := elfBytesUptoRow, standIns := [], harness := (true, "cffacb1ecffa15204f6fc425c3321afb21846df43af9ba28ac27a42d7fa7b0f5"), looks := true }, kinds := [], alts := [], laidByText := true, laidKinds := [.data, .data, .data, .data, .sentinel, .sentinel, .data, .pinned], laidTests := true, laidLooks := .later }
def ElfBytesUptoCardSaid : Prop := Claim7.holds Tryz.pinned (.plain (OpenSpec.upto elfBytesSpec)) elfBytesUptoCard

/-- THE SECOND FORM's CARD OF 'calliperlaw25.ElfReads'. -/
def elfReadsUptoCard : Claim7 := { stood := { row := elfReadsUptoRow, standIns := [], harness := (true, "cffacb1ecffa15204f6fc425c3321afb21846df43af9ba28ac27a42d7fa7b0f5"), looks := true }, kinds := [], alts := [], laidByText := true, laidKinds := [.data, .data, .data, .data, .sentinel, .sentinel, .data, .pinned], laidTests := true, laidLooks := .later }
def ElfReadsUptoCardSaid : Prop := Claim7.holds Tryz.pinned (.plain (OpenSpec.upto elfReadsSpec)) elfReadsUptoCard

/-- THE SECOND FORM's CARD OF 'calliperlaw25.ElfPair'. -/
def elfPairUptoCard : Claim7 := { stood := { row := elfPairUptoRow, standIns := [], harness := (true, "cffacb1ecffa15204f6fc425c3321afb21846df43af9ba28ac27a42d7fa7b0f5"), looks := true }, kinds := [], alts := [], laidByText := true, laidKinds := [.data, .data, .data, .data, .sentinel, .sentinel, .data, .pinned], laidTests := true, laidLooks := .later }
def ElfPairUptoCardSaid : Prop := Claim7.holds Tryz.pinned (.plain (OpenSpec.upto elfPairSpec)) elfPairUptoCard

/-- THE SECOND FORM's CARD OF 'calliperlaw24.PngValues'. -/
def pngValuesUptoCard : Claim7 := { stood := { row := pngValuesUptoRow, standIns := [], harness := (true, "cffacb1ecffa15204f6fc425c3321afb21846df43af9ba28ac27a42d7fa7b0f5"), looks := true }, kinds := [], alts := [], laidByText := true, laidKinds := [.data, .data, .data, .data, .sentinel, .sentinel, .data, .pinned], laidTests := true, laidLooks := .later }
def PngValuesUptoCardSaid : Prop := Claim7.holds Tryz.pinned (.plain (OpenSpec.upto pngValuesSpec)) pngValuesUptoCard

/-- THE SECOND FORM's CARD OF 'calliperlaw24.PngCut'. -/
def pngCutUptoCard : Claim7 := { stood := { row := pngCutUptoRow, standIns := [], harness := (true, "cffacb1ecffa15204f6fc425c3321afb21846df43af9ba28ac27a42d7fa7b0f5"), looks := true }, kinds := [], alts := [], laidByText := true, laidKinds := [.data, .data, .data, .data, .sentinel, .sentinel, .data, .pinned], laidTests := true, laidLooks := .later }
def PngCutUptoCardSaid : Prop := Claim7.holds Tryz.pinned (.plain (OpenSpec.upto pngCutSpec)) pngCutUptoCard

/-- THE SECOND FORM's CARD OF 'calliperlaw24.PngImages'. -/
def pngImagesUptoCard : Claim7 := { stood := { row := pngImagesUptoRow, standIns := [], harness := (true, "cffacb1ecffa15204f6fc425c3321afb21846df43af9ba28ac27a42d7fa7b0f5"), looks := true }, kinds := [], alts := [], laidByText := true, laidKinds := [.data, .data, .data, .data, .sentinel, .sentinel, .data, .pinned], laidTests := true, laidLooks := .later }
def PngImagesUptoCardSaid : Prop := Claim7.holds Tryz.pinned (.plain (OpenSpec.upto pngImagesSpec)) pngImagesUptoCard

/-- THE SECOND FORM's CARD OF 'calliperlaw24.PngBent'. -/
def pngBentUptoCard : Claim7 := { stood := { row := pngBentUptoRow, standIns := [], harness := (true, "cffacb1ecffa15204f6fc425c3321afb21846df43af9ba28ac27a42d7fa7b0f5"), looks := true }, kinds := [], alts := [], laidByText := true, laidKinds := [.data, .data, .data, .data, .sentinel, .sentinel, .data, .pinned], laidTests := true, laidLooks := .later }
def PngBentUptoCardSaid : Prop := Claim7.holds Tryz.pinned (.plain (OpenSpec.upto pngBentSpec)) pngBentUptoCard

/-- THE SECOND FORM's CARD OF 'calliperlaw23.TlsValues'. -/
def tlsValuesUptoCard : Claim7 := { stood := { row := tlsValuesUptoRow, standIns := [], harness := (true, "cffacb1ecffa15204f6fc425c3321afb21846df43af9ba28ac27a42d7fa7b0f5"), looks := true }, kinds := [], alts := [], laidByText := true, laidKinds := [.data, .data, .data, .data, .sentinel, .sentinel, .data, .pinned], laidTests := true, laidLooks := .later }
def TlsValuesUptoCardSaid : Prop := Claim7.holds Tryz.pinned (.plain (OpenSpec.upto tlsValuesSpec)) tlsValuesUptoCard

/-- THE SECOND FORM's CARD OF 'calliperlaw23.TlsBent'. -/
def tlsBentUptoCard : Claim7 := { stood := { row := tlsBentUptoRow, standIns := [], harness := (true, "cffacb1ecffa15204f6fc425c3321afb21846df43af9ba28ac27a42d7fa7b0f5"), looks := true }, kinds := [], alts := [], laidByText := true, laidKinds := [.data, .data, .data, .data, .sentinel, .sentinel, .data, .pinned], laidTests := true, laidLooks := .later }
def TlsBentUptoCardSaid : Prop := Claim7.holds Tryz.pinned (.plain (OpenSpec.upto tlsBentSpec)) tlsBentUptoCard

/-- THE SECOND FORM's CARD OF 'calliperlaw23.TlsStreams'. -/
def tlsStreamsUptoCard : Claim7 := { stood := { row := tlsStreamsUptoRow, standIns := [], harness := (true, "cffacb1ecffa15204f6fc425c3321afb21846df43af9ba28ac27a42d7fa7b0f5"), looks := true }, kinds := [], alts := [], laidByText := true, laidKinds := [.data, .data, .data, .data, .sentinel, .sentinel, .data, .pinned], laidTests := true, laidLooks := .later }
def TlsStreamsUptoCardSaid : Prop := Claim7.holds Tryz.pinned (.plain (OpenSpec.upto tlsStreamsSpec)) tlsStreamsUptoCard
end Rows
end Go.Proofs.YtbknmljjoahajaaGreatDoor
