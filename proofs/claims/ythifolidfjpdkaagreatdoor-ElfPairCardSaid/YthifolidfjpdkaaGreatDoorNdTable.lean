/- The table of the program's functions. -/
import Derived.Test.YthifolidfjpdkaaGreatDoorNdTree
import Derived.Test.YthifolidfjpdkaaGreatDoorNdGlob
import Derived.KernelRfl
import Derived.Test.YthifolidfjpdkaaGreatDoorProg
import Derived.Test.YthifolidfjpdkaaGreatDoorNdLib
set_option linter.unusedVariables false
set_option linter.unusedSimpArgs false
namespace Go.Abs
noncomputable section
namespace Run
def TA : Nat → ZV := TZ Go.Proofs.Tryz.prog glob [5,26,37,61,83,18]
theorem Zrr : TabA Go.Proofs.Tryz.prog glob TA := TZ_ok _ _ _
end Run
end
end Go.Abs
namespace Go.Abs
noncomputable section
namespace Run
open Go.Proofs
def Zq6 : List Nat → List Nat → Bool
  | _,[] => true
  | [],_ :: _ => false
  | a :: s,b :: p => Nat.beq a b && Zq6 s p
def Zbi (cut : List Nat) : List Nat → Nat → Nat
  | [],n => n
  | b :: r,n => bif Zsn b cut then Zbi cut r (Nat.succ n) else n
def Z73 (n : Nat) (l : List Nat) : Bool := List.rec (motive := fun _ => Bool) false (fun m _ ih => Bool.rec (motive := fun _ => Bool) ih true (Nat.beq n m)) l
theorem Zy5 (n : Nat) : ∀ l,Z73 n l = Zsn n l
  | [] => rfl
  | m :: r => by
    show Bool.rec (motive := fun _ => Bool) (Z73 n r) true (Nat.beq n m) = _
    rw [Zy5 n r,Zsn]
    cases Nat.beq n m <;> rfl
def Z87 (cut s : List Nat) (n : Nat) : Nat := List.rec (motive := fun _ => Nat → Nat) (fun n => n) (fun b _ ih n => Bool.rec (motive := fun _ => Nat) n (ih (Nat.add n 1)) (Z73 b cut)) s n
theorem Zzo (cut : List Nat) : ∀ (s : List Nat) (n : Nat),Z87 cut s n = Zbi cut s n
  | [],n => rfl
  | b :: r,n => by
    show Bool.rec (motive := fun _ => Nat) n (Z87 cut r (n + 1)) (Z73 b cut) = _
    rw [Zzo cut r,Zy5,Zbi]
    cases Zsn b cut <;> rfl
def preQ (s p : List Nat) : Bool := List.rec (motive := fun _ => List Nat → Bool) (fun _ => true) (fun b _ ih s => List.rec (motive := fun _ => Bool) false (fun a t _ => Bool.rec (motive := fun _ => Bool) false (ih t) (Nat.beq a b)) s) p s
theorem Zys : ∀ (p s : List Nat),preQ s p = Zq6 s p
  | [],s => by cases s <;> rfl
  | b :: p,[] => rfl
  | b :: p,a :: s => by
    show Bool.rec (motive := fun _ => Bool) false (preQ s p) (Nat.beq a b) = _
    rw [Zys p s,Zq6]
    cases Nat.beq a b <;> rfl
def Zb3 : List D → H → O D := fun args h => match args with
  | [.str s,.str p] => .ok (.v (.bool (preQ s p))) h
  | _ => .fail "prefix"
def Znc : List D → H → O D := fun args h => match args with
  | [.str s,.str cut] => bif Zkv cut && Nat.blt cut.length 4294967281 && Nat.blt (Z87 cut s 0) 9223372036854775808 then .ok (.int .i64 (.ofNat (Z87 cut s 0))) h else .fail "run"
  | _ => .fail "run"
def Vo (eb : TypeId) (ds : List D) (h : H) : O D :=
  match ds with
  | [.ptr l 0] => match Z3 h (.ptr l 1) 1 with
    | some [.v (.slice none 0 0)] => .ok (.str []) h
    | _ => Zb2 eb ds h
  | _ => .fail "String"
def bq {α : Type} (c : Bool) (a b : α) : α := Bool.rec (motive := fun _ => α) b a c
theorem Z5z {α : Type} (c : Bool) (a b : α) : bq c a b = bif c then a else b := by cases c <;> rfl
def Zi3 (f : Nat) : Option (List D → H → O D) :=
  bq (Nat.beq f 101) (some Zih) <|
  bq (Nat.beq f 67) (some Zb3) <|
  bq (Nat.beq f 66) (some Znc) <|
  bq (Nat.beq f 102) (some Zb3) <|
  bq (Nat.beq f 244) (some (Zlt Tryz.prog 244)) <|
  bq (Nat.beq f 24) (some (Vo 5)) <|
  bq (Nat.beq f 47) (some (XZ 82)) <|
  bq (Nat.beq f 300) (some Zeb) <|
  bq (Nat.beq f 331) (some Zii) <|
  none
def env0 : Env := Zfw Tryz.prog glob Zi3
end Run
end
end Go.Abs
