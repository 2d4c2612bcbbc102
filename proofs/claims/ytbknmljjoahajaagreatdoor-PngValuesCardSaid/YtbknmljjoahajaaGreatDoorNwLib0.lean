/- The functions that are given by hand. -/
import Derived.Test.YtbknmljjoahajaaGreatDoorNwTable
set_option linter.unusedVariables false
namespace Go.Abs
namespace Run
open Go.Proofs
def repL (s : List Nat) : Nat → List Nat
  | 0 => []
  | n + 1 => s ++ repL s n
def libTurn : List D → H → O D := fun args h => match args with
  | [.str s] => bif Nat.ble s.length 9223372036854775807 then .ok (.str s.reverse) h else .fail "turn"
  | _ => .fail "turn"
def libRepeat : List D → H → O D := fun args h => match args with
  | [.str s, .int .i64 (.ofNat c)] => bif Nat.ble (s.length * c) 140737488355328 && Nat.ble c 9223372036854775807 then .ok (.str (repL s c)) h else .fail "repeat"
  | _ => .fail "repeat"
def isPre : List Nat → List Nat → Bool
  | _, [] => true
  | [], _ :: _ => false
  | a :: s, b :: p => Nat.beq a b && isPre s p
def libPrefix : List D → H → O D := fun args h => match args with
  | [.str s, .str p] => .ok (.v (.bool (isPre s p))) h
  | _ => .fail "prefix"
def countIn (cut : List Nat) : List Nat → Nat → Nat
  | [], n => n
  | b :: r, n => bif memN b cut then countIn cut r (Nat.succ n) else n
def libRunN : List D → H → O D := fun args h => match args with
  | [.str s, .str cut] => bif ascii cut && Nat.blt cut.length 4294967281 && Nat.blt (countIn cut s 0) 9223372036854775808 then .ok (.int .i64 (.ofNat (countIn cut s 0))) h else .fail "run"
  | _ => .fail "run"
def libString0 (eb : TypeId) (ds : List D) (h : H) : O D :=
  match ds with
  | [.ptr l 0] => match readCells h (.ptr l 1) 1 with
    | some [.v (.slice none 0 0)] => .ok (.str []) h
    | _ => libString eb ds h
  | _ => .fail "String"
noncomputable def libs0 (f : Nat) : Option (List D → H → O D) :=
  bif Nat.beq f 163 then some libTrim else
  bif Nat.beq f 122 then some libPrefix else
  bif Nat.beq f 125 then some libRunN else
  bif Nat.beq f 159 then some libPrefix else
  bif Nat.beq f 297 then some (libExt Tryz.prog 297) else
  bif Nat.beq f 49 then some (libString0 5) else
  bif Nat.beq f 84 then some (libCheck 96) else
  bif Nat.beq f 281 then some libTurn else
  bif Nat.beq f 87 then some libRepeat else
  bif Nat.beq f 353 then some libGet else
  bif Nat.beq f 384 then some libName else none
noncomputable def env0 : Env := envOf Tryz.prog glob libs0
noncomputable def tab0 : Nat → FFn := tover libs0 TA
theorem tab0_ok : Tab env0 tab0 := tab_over TA_ok libs0
end Run
end Go.Abs
