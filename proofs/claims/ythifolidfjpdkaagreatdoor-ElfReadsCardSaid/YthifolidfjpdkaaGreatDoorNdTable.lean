/- The table of the program's functions. -/
import Derived.Test.YthifolidfjpdkaaGreatDoorNdTree
import Derived.Test.YthifolidfjpdkaaGreatDoorNdGlob
import Derived.KernelRfl
import Derived.Test.YthifolidfjpdkaaGreatDoorProg
import Derived.Test.YthifolidfjpdkaaGreatDoorNdLib
set_option linter.unusedVariables false
set_option linter.unusedSimpArgs false
namespace Go.Abs
noncomputable section
namespace Run
def TA : Nat → Yd := TZ Go.Proofs.Tryz.prog glob [5, 26, 37, 61, 83, 18]
theorem Z1q : TabA Go.Proofs.Tryz.prog glob TA := TZ_ok _ _ _
end Run
end
end Go.Abs
namespace Go.Abs
noncomputable section
namespace Run
open Go.Proofs
def Zoq : List Nat → List Nat → Bool
  | _, [] => true
  | [], _ :: _ => false
  | a :: s, b :: p => Nat.beq a b && Zoq s p
def Uu (cut : List Nat) : List Nat → Nat → Nat
  | [], n => n
  | b :: r, n => bif Zpx b cut then Uu cut r (Nat.succ n) else n
def Z3b (n : Nat) (l : List Nat) : Bool := List.rec (motive := fun _ => Bool) false (fun m _ ih => Bool.rec (motive := fun _ => Bool) ih true (Nat.beq n m)) l
theorem Zvx (n : Nat) : ∀ l, Z3b n l = Zpx n l
  | [] => rfl
  | m :: r => by
    show Bool.rec (motive := fun _ => Bool) (Z3b n r) true (Nat.beq n m) = _
    rw [Zvx n r, Zpx]
    cases Nat.beq n m <;> rfl
def cntQ (cut s : List Nat) (n : Nat) : Nat := List.rec (motive := fun _ => Nat → Nat) (fun n => n) (fun b _ ih n => Bool.rec (motive := fun _ => Nat) n (ih (Nat.add n 1)) (Z3b b cut)) s n
theorem Zwe (cut : List Nat) : ∀ (s : List Nat) (n : Nat), cntQ cut s n = Uu cut s n
  | [], n => rfl
  | b :: r, n => by
    show Bool.rec (motive := fun _ => Nat) n (cntQ cut r (n + 1)) (Z3b b cut) = _
    rw [Zwe cut r, Zvx, Uu]
    cases Zpx b cut <;> rfl
def preQ (s p : List Nat) : Bool := List.rec (motive := fun _ => List Nat → Bool) (fun _ => true) (fun b _ ih s => List.rec (motive := fun _ => Bool) false (fun a t _ => Bool.rec (motive := fun _ => Bool) false (ih t) (Nat.beq a b)) s) p s
theorem Zvl : ∀ (p s : List Nat), preQ s p = Zoq s p
  | [], s => by cases s <;> rfl
  | b :: p, [] => rfl
  | b :: p, a :: s => by
    show Bool.rec (motive := fun _ => Bool) false (preQ s p) (Nat.beq a b) = _
    rw [Zvl p s, Zoq]
    cases Nat.beq a b <;> rfl
def Za5 : List D → H → O D := fun args h => match args with
  | [.str s, .str p] => .ok (.v (.bool (preQ s p))) h
  | _ => .fail "prefix"
def Zlc : List D → H → O D := fun args h => match args with
  | [.str s, .str cut] => bif Ziw cut && Nat.blt cut.length 4294967281 && Nat.blt (cntQ cut s 0) 9223372036854775808 then .ok (.int .i64 (.ofNat (cntQ cut s 0))) h else .fail "run"
  | _ => .fail "run"
def WG (eb : TypeId) (ds : List D) (h : H) : O D :=
  match ds with
  | [.ptr l 0] => match Zi h (.ptr l 1) 1 with
    | some [.v (.slice none 0 0)] => .ok (.str []) h
    | _ => Za4 eb ds h
  | _ => .fail "String"
def bq {α : Type} (c : Bool) (a b : α) : α := Bool.rec (motive := fun _ => α) b a c
theorem Z1k {α : Type} (c : Bool) (a b : α) : bq c a b = bif c then a else b := by cases c <;> rfl
def Zih (f : Nat) : Option (List D → H → O D) :=
  bq (Nat.beq f 101) (some Zgy) <|
  bq (Nat.beq f 67) (some Za5) <|
  bq (Nat.beq f 66) (some Zlc) <|
  bq (Nat.beq f 102) (some Za5) <|
  bq (Nat.beq f 244) (some (Zju Tryz.prog 244)) <|
  bq (Nat.beq f 24) (some (WG 5)) <|
  bq (Nat.beq f 47) (some (X9 82)) <|
  bq (Nat.beq f 300) (some Zct) <|
  bq (Nat.beq f 331) (some Zgz) <|
  none
def env0 : Env := Zhh Tryz.prog glob Zih
end Run
end
end Go.Abs
