/- The functions that are given by their answers. -/
import Derived.Test.YtadigpaglappbaaAbsSym
import Derived.Test.YtadigpaglappbaaAbsLib
import Derived.Test.YtadigpaglappbaaBoundsN
set_option linter.unusedVariables false
namespace Go.Abs
open Go.RowKit
section
variable {P : Program} {glob : Nat → Option (List D)} {g : G} {h h' : H} {w w' : World}
/-- A value, with what lies in its parts. -/
def of2 : Value → D
  | .tuple vs => .tup (vs.toList.map .of)
  | x => .of x
theorem VRels.mapOf2 (g : G) (vs : List Value) : VRels g (vs.map .of) vs := by
  refine ⟨by simp, fun i d v hd hv => ?_⟩
  rw [List.getElem?_map, hv] at hd
  simp at hd
  subst hd
  exact .of g v
theorem VRel.of2 (g : G) (x : Value) : VRel g (of2 x) x := by
  unfold Abs.of2
  split
  · rename_i cs
    exact .tup (by simp) (fun i d v hd hv => (VRels.mapOf2 g cs.toList).2 i d v hd (by simpa using hv))
  · exact VRel.of g _
/-- A function of values without names. -/
def libP (pl : List Value → Option Value) (ds : List D) (h : H) : O D :=
  match plains ds with
  | some vs => match pl vs with
    | some v => .ok (of2 v) h
    | none => .fail "lib"
  | none => .fail "lib"
theorem libP_sim {f : Nat} {pl : List Value → Option Value} (hent : ∀ args w, (callFunc f args).run P w = .ok (.enter f args) w)
    (hc : ∀ vs v w, pl vs = some v → Calls P f vs.toArray w fun e w' => e = .returned v ∧ Below w.heap.size w w') : LibSim P f (libP pl) glob := by
  refine libsim_below fun ds h p d h' hrun => ?_
  unfold libP at hrun
  split at hrun
  · rename_i vs hvs
    split at hrun
    · rename_i v hv
      cases p with
      | true => cases hrun
      | false =>
        cases hrun
        refine ⟨rfl, rfl, fun top g w args hr hargs => ⟨hent args w, v, .of2 g v, ?_⟩⟩
        have : args = vs.toArray := by
          have := plains_eq hvs hargs
          rw [← this]
        subst this
        exact hc vs v w hv
    · cases p <;> cases hrun
  · cases p <;> cases hrun
theorem libP_grow (pl : List Value → Option Value) (ds : List D) (h : H) : Ogrow h (libP pl ds h) := by
  refine ogrow_same fun p d h' hr => ?_
  unfold libP at hr
  split at hr
  · split at hr <;> cases p <;> cases hr
    rfl
  · cases p <;> cases hr
end
namespace Run
open Go.Proofs.Ytadigpaglappbaa.Word Go.Proofs.Ytadigpaglappbaa.BoundsN
def uOk (n : Int) : Bool := decide (0 ≤ n) && decide (n ≤ 18446744073709551615)
def plWop : List Value → Option Value
  | [.string s, .int .u64 a, .int .u64 b] => bif uOk a && uOk b then some (.tuple #[.int .u64 (Go.Proofs.Ytadigpaglappbaa.Word.op s.toList a b).1, .int .i64 (Go.Proofs.Ytadigpaglappbaa.Word.op s.toList a b).2]) else none
  | _ => none
def plBop : List Value → Option Value
  | [.string s, .agg ⟨[.int .u64 a, .int .u64 b]⟩, .agg ⟨[.int .u64 c, .int .u64 d]⟩] => bif uOk a && uOk b && uOk c && uOk d then some (.tuple #[.agg #[.int .u64 (bop s.toList ⟨a, b⟩ ⟨c, d⟩).1.lo, .int .u64 (bop s.toList ⟨a, b⟩ ⟨c, d⟩).1.hi], .bool (bop s.toList ⟨a, b⟩ ⟨c, d⟩).2]) else none
  | _ => none
def plTruth : List Value → Option Value
  | [.bool b] => some (.int .u64 (truth b))
  | _ => none
def plPoint : List Value → Option Value
  | [.int .u64 n] => some (.agg #[.int .u64 n, .int .u64 n])
  | _ => none
def plAll : List Value → Option Value
  | [.int .i64 n] => some (.agg #[.int .u64 0, .int .u64 (mask n)])
  | _ => none
def plWakes : List Value → Option Value
  | [] => some (.bool true)
  | _ => none
end Run
end Go.Abs
