/-
  No cell of these rows narrows 'for every input' (looked for: loops, veiled, ifaces, maps, wideKeys, modest, calm, conditions, laid).
  DERIVED. THE GIVEN ROWS OF THIS SEAT. 6 by the template 'for every input the law returns true; each argument reads behind the call as it read before'; 0 by the template 'total and deterministic' (their statements: YtjooffajednmcaaTotals.lean).
  GIVEN WITH THE SEED: the statements are not yours to turn. If you find one false, say at which input.
  Laid BY PROGRAM, IN A SANDBOX (cutbox-rows.mjs): the forced cells as the released guide's own fill.sh prints them over the translation 251de7a92030fa5c… (all of the seat's roots in one cut). By AI agents, Wed Nov 11 2026. No macro, syntax, notation, axiom, sorry.
-/
import Derived.Test.YtjooffajednmcaaChecked
import GoSem.Claim
import GoSem.ClaimJoined
import GoSem.ClaimMapViews
import Derived.JoinedTies
import Derived.KernelRfl
namespace Go.Proofs.Ytjooffajednmcaa
/- THE CELL 'sum', in the pinned program and in every row, IS THE sha256 OF THE DUMP (.gsa) THAT YtjooffajednmcaaProg.lean LOADS. Nothing in Lean hashes anything: it is a label: what it is worth is what the hold of that sum in a sandbox is worth. -/
noncomputable def Try.pinned : Pinned := { name := "ytjooffajednmcaa", sum := "251de7a92030fa5c4ace9fb78de684118b73dd18495926e3c91dbc436ed92e66", checked := Try.checked }
namespace Rows
def none {H : Type} : Left H := { results := [], args := [] }

/-- 'calliperlaw01.WordSums': WHATEVER THE INPUT: true; the input reads as it did. -/
def wordSumsSpec : ChangeSpec := { name := "wordSums", fn := fun _ => fun
  | [d1, d2] => { results := [.lit (.bool true)], args := [d1, d2] }
  | _ => none }
def wordSumsRow : OpenClaim := { program := "ytjooffajednmcaa", sum := "251de7a92030fa5c4ace9fb78de684118b73dd18495926e3c91dbc436ed92e66", func := "calliper/calliperlaw01.WordSums", spec := "wordSums", inPlace := ["math/bits.Add64"], apart := false }
def WordSumsSaid : Prop := wordSumsRow.holds Try.pinned (OpenSpec.ofChange wordSumsSpec)

/-- ITS FALSE NEIGHBOUR: 'it returns false'. Refute it at one input. -/
def wordSumsWrong : ChangeSpec := { name := "wordSums", fn := fun _ => fun
  | [d1, d2] => { results := [.lit (.bool false)], args := [d1, d2] }
  | _ => none }
def WordSumsWrongFalsely : Prop := wordSumsRow.holds Try.pinned (OpenSpec.ofChange wordSumsWrong)

/-- 'calliperlaw01.WordShifts': WHATEVER THE INPUT: true; the input reads as it did. -/
def wordShiftsSpec : ChangeSpec := { name := "wordShifts", fn := fun _ => fun
  | [d1, d2] => { results := [.lit (.bool true)], args := [d1, d2] }
  | _ => none }
def wordShiftsRow : OpenClaim := { program := "ytjooffajednmcaa", sum := "251de7a92030fa5c4ace9fb78de684118b73dd18495926e3c91dbc436ed92e66", func := "calliper/calliperlaw01.WordShifts", spec := "wordShifts", inPlace := ["math/bits.Add64"], apart := false }
def WordShiftsSaid : Prop := wordShiftsRow.holds Try.pinned (OpenSpec.ofChange wordShiftsSpec)

/-- ITS FALSE NEIGHBOUR: 'it returns false'. Refute it at one input. -/
def wordShiftsWrong : ChangeSpec := { name := "wordShifts", fn := fun _ => fun
  | [d1, d2] => { results := [.lit (.bool false)], args := [d1, d2] }
  | _ => none }
def WordShiftsWrongFalsely : Prop := wordShiftsRow.holds Try.pinned (OpenSpec.ofChange wordShiftsWrong)

/-- 'calliperlaw01.WordOps': WHATEVER THE INPUT: true; the input reads as it did. -/
def wordOpsSpec : ChangeSpec := { name := "wordOps", fn := fun _ => fun
  | [d1, d2, d3] => { results := [.lit (.bool true)], args := [d1, d2, d3] }
  | _ => none }
def wordOpsRow : OpenClaim := { program := "ytjooffajednmcaa", sum := "251de7a92030fa5c4ace9fb78de684118b73dd18495926e3c91dbc436ed92e66", func := "calliper/calliperlaw01.WordOps", spec := "wordOps", inPlace := ["math/bits.Add64"], apart := false }
def WordOpsSaid : Prop := wordOpsRow.holds Try.pinned (OpenSpec.ofChange wordOpsSpec)

/-- ITS FALSE NEIGHBOUR: 'it returns false'. Refute it at one input. -/
def wordOpsWrong : ChangeSpec := { name := "wordOps", fn := fun _ => fun
  | [d1, d2, d3] => { results := [.lit (.bool false)], args := [d1, d2, d3] }
  | _ => none }
def WordOpsWrongFalsely : Prop := wordOpsRow.holds Try.pinned (OpenSpec.ofChange wordOpsWrong)

/-- 'calliperlaw01.WordBack': WHATEVER THE INPUT: true; the input reads as it did. -/
def wordBackSpec : ChangeSpec := { name := "wordBack", fn := fun _ => fun
  | [d1, d2] => { results := [.lit (.bool true)], args := [d1, d2] }
  | _ => none }
def wordBackRow : OpenClaim := { program := "ytjooffajednmcaa", sum := "251de7a92030fa5c4ace9fb78de684118b73dd18495926e3c91dbc436ed92e66", func := "calliper/calliperlaw01.WordBack", spec := "wordBack", inPlace := ["math/bits.Add64"], apart := false }
def WordBackSaid : Prop := wordBackRow.holds Try.pinned (OpenSpec.ofChange wordBackSpec)

/-- ITS FALSE NEIGHBOUR: 'it returns false'. Refute it at one input. -/
def wordBackWrong : ChangeSpec := { name := "wordBack", fn := fun _ => fun
  | [d1, d2] => { results := [.lit (.bool false)], args := [d1, d2] }
  | _ => none }
def WordBackWrongFalsely : Prop := wordBackRow.holds Try.pinned (OpenSpec.ofChange wordBackWrong)

/-- 'calliperlaw01.WordTurns': WHATEVER THE INPUT: true; the input reads as it did. -/
def wordTurnsSpec : ChangeSpec := { name := "wordTurns", fn := fun _ => fun
  | [d1, d2] => { results := [.lit (.bool true)], args := [d1, d2] }
  | _ => none }
def wordTurnsRow : OpenClaim := { program := "ytjooffajednmcaa", sum := "251de7a92030fa5c4ace9fb78de684118b73dd18495926e3c91dbc436ed92e66", func := "calliper/calliperlaw01.WordTurns", spec := "wordTurns", inPlace := ["math/bits.Add64"], apart := false }
def WordTurnsSaid : Prop := wordTurnsRow.holds Try.pinned (OpenSpec.ofChange wordTurnsSpec)

/-- ITS FALSE NEIGHBOUR: 'it returns false'. Refute it at one input. -/
def wordTurnsWrong : ChangeSpec := { name := "wordTurns", fn := fun _ => fun
  | [d1, d2] => { results := [.lit (.bool false)], args := [d1, d2] }
  | _ => none }
def WordTurnsWrongFalsely : Prop := wordTurnsRow.holds Try.pinned (OpenSpec.ofChange wordTurnsWrong)

/-- 'calliperlaw01.WordMasks': WHATEVER THE INPUT: true; the input reads as it did. -/
def wordMasksSpec : ChangeSpec := { name := "wordMasks", fn := fun _ => fun
  | [d1, d2] => { results := [.lit (.bool true)], args := [d1, d2] }
  | _ => none }
def wordMasksRow : OpenClaim := { program := "ytjooffajednmcaa", sum := "251de7a92030fa5c4ace9fb78de684118b73dd18495926e3c91dbc436ed92e66", func := "calliper/calliperlaw01.WordMasks", spec := "wordMasks", inPlace := ["math/bits.Add64"], apart := false }
def WordMasksSaid : Prop := wordMasksRow.holds Try.pinned (OpenSpec.ofChange wordMasksSpec)

/-- ITS FALSE NEIGHBOUR: 'it returns false'. Refute it at one input. -/
def wordMasksWrong : ChangeSpec := { name := "wordMasks", fn := fun _ => fun
  | [d1, d2] => { results := [.lit (.bool false)], args := [d1, d2] }
  | _ => none }
def WordMasksWrongFalsely : Prop := wordMasksRow.holds Try.pinned (OpenSpec.ofChange wordMasksWrong)

/- THE SECOND FORM. 'bulk': how many values and letters a reading holds, each counted each time it is reached (what is shared counts as often as it is met; a slice's spare places count too). A statement '..UptoSaid' is the law's where the arguments, and the package variables that the reading takes, are together of bulk at most 1048576: NARROWER than '..Said'. Prove '..Said' where nothing that the law and all that it calls make is longer than what came in: it says more and counts as full. Else prove '..UptoSaid'. A law counts once. -/
mutual
def uptoBulk {H : Type} : DataW H → Nat
  | .lit (.string bytes) => bytes.length + 1
  | .lit _ => 1
  | .nil => 1
  | .ptr d => uptoBulk d + 1
  | .slice elems spare => uptoBulkAll elems + uptoBulkAll spare + 1
  | .agg parts => uptoBulkAll parts + 1
  | .iface _ d => uptoBulk d + 1
  | .map entries => uptoBulkEntries entries + 1
  | .held _ => 1
def uptoBulkAll {H : Type} : List (DataW H) → Nat
  | [] => 0
  | d :: r => uptoBulk d + uptoBulkAll r
def uptoBulkEntries {H : Type} : List (Lit × DataW H) → Nat
  | [] => 0
  | x :: r => uptoBulkEntry x + uptoBulkEntries r
def uptoBulkEntry {H : Type} : Lit × DataW H → Nat
  | (.string bytes, d) => bytes.length + uptoBulk d + 1
  | (_, d) => uptoBulk d + 1
 end
def uptoSmall : (H : Type) → List (DataW H) → Bool := fun _ ds => decide (uptoBulkAll ds ≤ 1048576)
def OpenSpec.upto (s : _root_.Go.ChangeSpec) : _root_.Go.OpenSpec := { _root_.Go.OpenSpec.ofChange s with cond := some uptoSmall }

/-- 'calliperlaw01.WordSums', WHERE WHAT IT READS IS OF BULK AT MOST 1048576: true; the input reads as it did. -/
def wordSumsUptoRow : OpenClaim := { program := "ytjooffajednmcaa", sum := "251de7a92030fa5c4ace9fb78de684118b73dd18495926e3c91dbc436ed92e66", func := "calliper/calliperlaw01.WordSums", spec := "wordSums", inPlace := ["math/bits.Add64"], apart := false, narrowed := true }
def WordSumsUptoSaid : Prop := wordSumsUptoRow.holds Try.pinned (OpenSpec.upto wordSumsSpec)

/-- 'calliperlaw01.WordShifts', WHERE WHAT IT READS IS OF BULK AT MOST 1048576: true; the input reads as it did. -/
def wordShiftsUptoRow : OpenClaim := { program := "ytjooffajednmcaa", sum := "251de7a92030fa5c4ace9fb78de684118b73dd18495926e3c91dbc436ed92e66", func := "calliper/calliperlaw01.WordShifts", spec := "wordShifts", inPlace := ["math/bits.Add64"], apart := false, narrowed := true }
def WordShiftsUptoSaid : Prop := wordShiftsUptoRow.holds Try.pinned (OpenSpec.upto wordShiftsSpec)

/-- 'calliperlaw01.WordOps', WHERE WHAT IT READS IS OF BULK AT MOST 1048576: true; the input reads as it did. -/
def wordOpsUptoRow : OpenClaim := { program := "ytjooffajednmcaa", sum := "251de7a92030fa5c4ace9fb78de684118b73dd18495926e3c91dbc436ed92e66", func := "calliper/calliperlaw01.WordOps", spec := "wordOps", inPlace := ["math/bits.Add64"], apart := false, narrowed := true }
def WordOpsUptoSaid : Prop := wordOpsUptoRow.holds Try.pinned (OpenSpec.upto wordOpsSpec)

/-- 'calliperlaw01.WordBack', WHERE WHAT IT READS IS OF BULK AT MOST 1048576: true; the input reads as it did. -/
def wordBackUptoRow : OpenClaim := { program := "ytjooffajednmcaa", sum := "251de7a92030fa5c4ace9fb78de684118b73dd18495926e3c91dbc436ed92e66", func := "calliper/calliperlaw01.WordBack", spec := "wordBack", inPlace := ["math/bits.Add64"], apart := false, narrowed := true }
def WordBackUptoSaid : Prop := wordBackUptoRow.holds Try.pinned (OpenSpec.upto wordBackSpec)

/-- 'calliperlaw01.WordTurns', WHERE WHAT IT READS IS OF BULK AT MOST 1048576: true; the input reads as it did. -/
def wordTurnsUptoRow : OpenClaim := { program := "ytjooffajednmcaa", sum := "251de7a92030fa5c4ace9fb78de684118b73dd18495926e3c91dbc436ed92e66", func := "calliper/calliperlaw01.WordTurns", spec := "wordTurns", inPlace := ["math/bits.Add64"], apart := false, narrowed := true }
def WordTurnsUptoSaid : Prop := wordTurnsUptoRow.holds Try.pinned (OpenSpec.upto wordTurnsSpec)

/-- 'calliperlaw01.WordMasks', WHERE WHAT IT READS IS OF BULK AT MOST 1048576: true; the input reads as it did. -/
def wordMasksUptoRow : OpenClaim := { program := "ytjooffajednmcaa", sum := "251de7a92030fa5c4ace9fb78de684118b73dd18495926e3c91dbc436ed92e66", func := "calliper/calliperlaw01.WordMasks", spec := "wordMasks", inPlace := ["math/bits.Add64"], apart := false, narrowed := true }
def WordMasksUptoSaid : Prop := wordMasksUptoRow.holds Try.pinned (OpenSpec.upto wordMasksSpec)

end Rows
end Go.Proofs.Ytjooffajednmcaa
