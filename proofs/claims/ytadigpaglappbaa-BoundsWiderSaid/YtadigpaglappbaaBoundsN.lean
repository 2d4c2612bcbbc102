/- The plain answers of layer 11 (bounds): ranges of numbers, and what an operator tells of two of them. -/
import Derived.Test.YtadigpaglappbaaWordN
import Derived.Lib.BitFns
set_option linter.unusedVariables false
namespace Go.Proofs.Ytadigpaglappbaa.BoundsN
open Go.Proofs.Ytadigpaglappbaa.Word

/-- A range: from one number to another one. -/
structure R where
  lo : Int
  hi : Int

def UR (r : R) : Prop := U r.lo ∧ U r.hi
def none2 : R × Bool := (⟨0, 0⟩, false)
def orTop (p : Int × Int) : Int := if p.2 = 0 then p.1 else top
def rising (f : Int → Int → Int × Int) (a b : R) : R × Bool := if (f a.lo b.lo).2 = 0 then (⟨(f a.lo b.lo).1, orTop (f a.hi b.hi)⟩, true) else none2
def minus (a b : R) : R × Bool := if a.hi < b.lo then none2 else (⟨a.lo - min a.lo b.hi, a.hi - b.lo⟩, true)
def over (a b : R) (left : Bool) : R × Bool :=
  if b.hi = 0 then none2 else if left then (⟨0, min a.hi (b.hi - 1)⟩, true) else (⟨a.lo / b.hi, a.hi / max b.lo 1⟩, true)
def down (a b : R) : R × Bool := if 63 < b.lo then none2 else (⟨a.lo / 2 ^ (min b.hi 63).toNat, a.hi / 2 ^ b.lo.toNat⟩, true)
def wide (s : List UInt8) (a b : R) : R × Bool :=
  if s == [43] then rising add a b else
  if s == [45] then minus a b else
  if s == [42] then rising mul a b else
  if s == [47] then over a b false else
  if s == [37] then over a b true else
  if s == [60, 60] then rising shl a b else
  if s == [62, 62] then down a b else
  if s == [38] then (⟨0, min a.hi b.hi⟩, true) else
  if s == [124] then (⟨max a.lo b.lo, mask (Lib.bitLen (max a.hi b.hi).toNat)⟩, true) else
  (⟨0, 1⟩, (op s 0 1).2 == 0)
def bop (s : List UInt8) (a b : R) : R × Bool :=
  if a.lo ≤ a.hi ∧ b.lo ≤ b.hi then
    if a.lo = a.hi ∧ b.lo = b.hi then (if (op s a.lo b.lo).2 = 0 then (⟨(op s a.lo b.lo).1, (op s a.lo b.lo).1⟩, true) else none2)
    else if (wide s a b).2 then ((wide s a b).1, true) else none2
  else none2
end Go.Proofs.Ytadigpaglappbaa.BoundsN
