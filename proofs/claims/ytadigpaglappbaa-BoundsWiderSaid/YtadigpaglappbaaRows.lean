/-
  No cell of these rows narrows 'for every input' (looked for: loops, veiled, ifaces, maps, wideKeys, modest, calm, conditions, laid).
  DERIVED. THE GIVEN ROWS OF THIS SEAT. 3 by the template 'for every input the law returns true; each argument reads behind the call as it read before'; 0 by the template 'total and deterministic' (their statements: YtadigpaglappbaaTotals.lean).
  GIVEN WITH THE SEED: the statements are not yours to turn. If you find one false, say at which input.
  Laid BY PROGRAM, IN A SANDBOX (cutbox-rows.mjs): the forced cells as the released guide's own fill.sh prints them over the translation 38f285d9d9063517… (all of the seat's roots in one cut). By AI agents, Wed Nov 11 2026. No macro, syntax, notation, axiom, sorry.
-/
import Derived.Test.YtadigpaglappbaaChecked
import GoSem.Claim
import GoSem.ClaimJoined
import GoSem.ClaimMapViews
import Derived.JoinedTies
import Derived.KernelRfl
namespace Go.Proofs.Ytadigpaglappbaa
/- THE CELL 'sum', in the pinned program and in every row, IS THE sha256 OF THE DUMP (.gsa) THAT YtadigpaglappbaaProg.lean LOADS. Nothing in Lean hashes anything: it is a label: what it is worth is what the hold of that sum in a sandbox is worth. -/
noncomputable def Try.pinned : Pinned := { name := "ytadigpaglappbaa", sum := "38f285d9d9063517d2280e660d0d11e9df3d99bea4e9db0156061852111ae409", checked := Try.checked }
namespace Rows
def none {H : Type} : Left H := { results := [], args := [] }

/-- 'calliperlaw11.BoundsPoint': WHATEVER THE INPUT: true; the input reads as it did. -/
def boundsPointSpec : ChangeSpec := { name := "boundsPoint", fn := fun _ => fun
  | [d1, d2, d3] => { results := [.lit (.bool true)], args := [d1, d2, d3] }
  | _ => none }
def boundsPointRow : OpenClaim := { program := "ytadigpaglappbaa", sum := "38f285d9d9063517d2280e660d0d11e9df3d99bea4e9db0156061852111ae409", func := "calliper/calliperlaw11.BoundsPoint", spec := "boundsPoint", inPlace := ["math/bits.Add64"], unfollowed := true, recurses := true, apart := false }
def BoundsPointSaid : Prop := boundsPointRow.holds Try.pinned (OpenSpec.ofChange boundsPointSpec)

/-- ITS FALSE NEIGHBOUR: 'it returns false'. Refute it at one input. -/
def boundsPointWrong : ChangeSpec := { name := "boundsPoint", fn := fun _ => fun
  | [d1, d2, d3] => { results := [.lit (.bool false)], args := [d1, d2, d3] }
  | _ => none }
def BoundsPointWrongFalsely : Prop := boundsPointRow.holds Try.pinned (OpenSpec.ofChange boundsPointWrong)

/-- 'calliperlaw11.BoundsHolds': WHATEVER THE INPUT: true; the input reads as it did. -/
def boundsHoldsSpec : ChangeSpec := { name := "boundsHolds", fn := fun _ => fun
  | [d1, d2, d3] => { results := [.lit (.bool true)], args := [d1, d2, d3] }
  | _ => none }
def boundsHoldsRow : OpenClaim := { program := "ytadigpaglappbaa", sum := "38f285d9d9063517d2280e660d0d11e9df3d99bea4e9db0156061852111ae409", func := "calliper/calliperlaw11.BoundsHolds", spec := "boundsHolds", inPlace := ["math/bits.Add64"], unfollowed := true, recurses := true, apart := false }
def BoundsHoldsSaid : Prop := boundsHoldsRow.holds Try.pinned (OpenSpec.ofChange boundsHoldsSpec)

/-- ITS FALSE NEIGHBOUR: 'it returns false'. Refute it at one input. -/
def boundsHoldsWrong : ChangeSpec := { name := "boundsHolds", fn := fun _ => fun
  | [d1, d2, d3] => { results := [.lit (.bool false)], args := [d1, d2, d3] }
  | _ => none }
def BoundsHoldsWrongFalsely : Prop := boundsHoldsRow.holds Try.pinned (OpenSpec.ofChange boundsHoldsWrong)

/-- 'calliperlaw11.BoundsWider': WHATEVER THE INPUT: true; the input reads as it did. -/
def boundsWiderSpec : ChangeSpec := { name := "boundsWider", fn := fun _ => fun
  | [d1, d2, d3] => { results := [.lit (.bool true)], args := [d1, d2, d3] }
  | _ => none }
def boundsWiderRow : OpenClaim := { program := "ytadigpaglappbaa", sum := "38f285d9d9063517d2280e660d0d11e9df3d99bea4e9db0156061852111ae409", func := "calliper/calliperlaw11.BoundsWider", spec := "boundsWider", inPlace := ["math/bits.Add64"], unfollowed := true, recurses := true, apart := false }
def BoundsWiderSaid : Prop := boundsWiderRow.holds Try.pinned (OpenSpec.ofChange boundsWiderSpec)

/-- ITS FALSE NEIGHBOUR: 'it returns false'. Refute it at one input. -/
def boundsWiderWrong : ChangeSpec := { name := "boundsWider", fn := fun _ => fun
  | [d1, d2, d3] => { results := [.lit (.bool false)], args := [d1, d2, d3] }
  | _ => none }
def BoundsWiderWrongFalsely : Prop := boundsWiderRow.holds Try.pinned (OpenSpec.ofChange boundsWiderWrong)

/- THE SECOND FORM. 'bulk': how many values and letters a reading holds, each counted each time it is reached (what is shared counts as often as it is met; a slice's spare places count too). A statement '..UptoSaid' is the law's where the arguments, and the package variables that the reading takes, are together of bulk at most 1048576: NARROWER than '..Said'. Prove '..Said' where nothing that the law and all that it calls make is longer than what came in: it says more and counts as full. Else prove '..UptoSaid'. A law counts once. -/
mutual
def uptoBulk {H : Type} : DataW H → Nat
  | .lit (.string bytes) => bytes.length + 1
  | .lit _ => 1
  | .nil => 1
  | .ptr d => uptoBulk d + 1
  | .slice elems spare => uptoBulkAll elems + uptoBulkAll spare + 1
  | .agg parts => uptoBulkAll parts + 1
  | .iface _ d => uptoBulk d + 1
  | .map entries => uptoBulkEntries entries + 1
  | .held _ => 1
def uptoBulkAll {H : Type} : List (DataW H) → Nat
  | [] => 0
  | d :: r => uptoBulk d + uptoBulkAll r
def uptoBulkEntries {H : Type} : List (Lit × DataW H) → Nat
  | [] => 0
  | x :: r => uptoBulkEntry x + uptoBulkEntries r
def uptoBulkEntry {H : Type} : Lit × DataW H → Nat
  | (.string bytes, d) => bytes.length + uptoBulk d + 1
  | (_, d) => uptoBulk d + 1
 end
def uptoSmall : (H : Type) → List (DataW H) → Bool := fun _ ds => decide (uptoBulkAll ds ≤ 1048576)
def OpenSpec.upto (s : _root_.Go.ChangeSpec) : _root_.Go.OpenSpec := { _root_.Go.OpenSpec.ofChange s with cond := some uptoSmall }

/-- 'calliperlaw11.BoundsPoint', WHERE WHAT IT READS IS OF BULK AT MOST 1048576: true; the input reads as it did. -/
def boundsPointUptoRow : OpenClaim := { program := "ytadigpaglappbaa", sum := "38f285d9d9063517d2280e660d0d11e9df3d99bea4e9db0156061852111ae409", func := "calliper/calliperlaw11.BoundsPoint", spec := "boundsPoint", inPlace := ["math/bits.Add64"], unfollowed := true, recurses := true, apart := false, narrowed := true }
def BoundsPointUptoSaid : Prop := boundsPointUptoRow.holds Try.pinned (OpenSpec.upto boundsPointSpec)

/-- 'calliperlaw11.BoundsHolds', WHERE WHAT IT READS IS OF BULK AT MOST 1048576: true; the input reads as it did. -/
def boundsHoldsUptoRow : OpenClaim := { program := "ytadigpaglappbaa", sum := "38f285d9d9063517d2280e660d0d11e9df3d99bea4e9db0156061852111ae409", func := "calliper/calliperlaw11.BoundsHolds", spec := "boundsHolds", inPlace := ["math/bits.Add64"], unfollowed := true, recurses := true, apart := false, narrowed := true }
def BoundsHoldsUptoSaid : Prop := boundsHoldsUptoRow.holds Try.pinned (OpenSpec.upto boundsHoldsSpec)

/-- 'calliperlaw11.BoundsWider', WHERE WHAT IT READS IS OF BULK AT MOST 1048576: true; the input reads as it did. -/
def boundsWiderUptoRow : OpenClaim := { program := "ytadigpaglappbaa", sum := "38f285d9d9063517d2280e660d0d11e9df3d99bea4e9db0156061852111ae409", func := "calliper/calliperlaw11.BoundsWider", spec := "boundsWider", inPlace := ["math/bits.Add64"], unfollowed := true, recurses := true, apart := false, narrowed := true }
def BoundsWiderUptoSaid : Prop := boundsWiderUptoRow.holds Try.pinned (OpenSpec.upto boundsWiderSpec)

end Rows
end Go.Proofs.Ytadigpaglappbaa
