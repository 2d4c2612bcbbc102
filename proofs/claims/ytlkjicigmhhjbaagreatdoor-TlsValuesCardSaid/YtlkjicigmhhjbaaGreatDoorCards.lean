/-
  DERIVED. GIVEN WITH THE SEED: THE CARDS: each row of YtlkjicigmhhjbaaGreatDoorRows.lean that lists a variable, with what it lists TIED to the program's text (the seventh form; the later family's looks); each row that meets fmt, with fmt's text TOLD by the authors' own Lean function (tested against real Go, not proved from fmt's source: count such statements apart). THE CARD IS WHAT COUNTS. Prove the row's statement (the work); the ties are given (YtlkjicigmhhjbaaGreatDoorTie.lean); close each card by the builder's one call (the guide's Derived/Test/ToyasCard.lean, 'card_holds'). Laid BY PROGRAM, IN A SANDBOX (cutbox-door.mjs). By AI agents, Wed Nov 11 2026. No macro, syntax, notation, axiom, sorry.
-/
import Derived.Test.YtlkjicigmhhjbaaGreatDoorRows
import GoSem.ClaimSeven
namespace Go.Proofs.YtlkjicigmhhjbaaGreatDoor
namespace Rows

/-- THE TIED CARD OF 'calliperlaw23.TlsValues'. -/
def tlsValuesCard : Claim7 := { stood := { row := tlsValuesRow, standIns := [], harness := (true, "19aa511677e0068b4e9ff2157d1d10afab1a78cfd2b23888c2e266d3ee7157fd"), looks := true }, kinds := [], alts := [], laidByText := true, laidKinds := [.data, .data, .data, .data, .sentinel, .sentinel, .data, .pinned], laidTests := true, laidLooks := .later }
def TlsValuesCardSaid : Prop := Claim7.holds Tryz.pinned (.plain (OpenSpec.ofChange tlsValuesSpec)) tlsValuesCard

/-- THE SECOND FORM's CARD OF 'calliperlaw23.TlsValues'. -/
def tlsValuesUptoCard : Claim7 := { stood := { row := tlsValuesUptoRow, standIns := [], harness := (true, "19aa511677e0068b4e9ff2157d1d10afab1a78cfd2b23888c2e266d3ee7157fd"), looks := true }, kinds := [], alts := [], laidByText := true, laidKinds := [.data, .data, .data, .data, .sentinel, .sentinel, .data, .pinned], laidTests := true, laidLooks := .later }
def TlsValuesUptoCardSaid : Prop := Claim7.holds Tryz.pinned (.plain (OpenSpec.upto tlsValuesSpec)) tlsValuesUptoCard
end Rows
end Go.Proofs.YtlkjicigmhhjbaaGreatDoor
