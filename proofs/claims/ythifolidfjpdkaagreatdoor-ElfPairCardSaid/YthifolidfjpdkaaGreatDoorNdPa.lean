/- The pair of elf: printed by a program. -/
import Derived.Test.YthifolidfjpdkaaGreatDoorRpA
import Derived.Test.YthifolidfjpdkaaGreatDoorNdUsedW
set_option linter.unusedVariables false
set_option linter.unusedSimpArgs false
namespace Go.Abs
noncomputable section
namespace Run
open Go.Proofs Go.RowKit
set_option maxHeartbeats 100000000
set_option maxRecDepth 100000
def sx1 : List (Nat × List Nat) := [(1,[97]),(8,[0])]
def sx2 : List (Nat × List Nat) := [(1,[97]),(8,[1])]
def Zhz : D := .tup [.str (YM sx1),.str (YM sx2)]
def Vj : D := (.tup [(.agg [(.v (.bool false)),(.v (.bool false)),(.sl 0 1 [(.str [111,116,104,101,114,115])]),(.sl 0 2 [(.str [100,97,116,97]),(.str [116,97,98,108,101])]),(.int .i64 (.ofNat 2))]),(.int .i64 (.ofNat 0))])
def Zpf : D := (.sl 0 2 [(.int .i64 (.ofNat 0)),(.int .i64 (.ofNat 1))])
def Zeg (i : Nat) : List Nat := [[],[0]].getD i []
def Zxq : List Nat := [0,1]
def Z5g : D := .v (.slice none 0 0)
def Z5b : List D := match Z5 with
  | .ep [_,.sl _ _ l,_,_] => l
  | _ => []
def Zvp : List D := match Z5 with
  | .ep [_,_,a,b] => [a,b]
  | _ => []
def Zcx : List D := Zep (Zjv sx1 [])
def VV : D := (.tup [(.agg [(.str []),(.int .i64 (.ofNat 0)),(.int .u64 (.ofNat 0)),(.str []),(.v (.slice none 0 0))]),(.v (.slice none 0 0)),(.int .i64 (.ofNat 15))])
def Z4i (l : Zl7) (f : Nat) : Option (List D → H → O D) := bq (Nat.beq f 233) (some (Zht (Zr4 Zs5 ZS.es) ZS.es.length)) (Zmk l f)
abbrev rnM (l : Zl7) (f : Nat) (ds : List D) (t : D) : Prop := Zjq (ZI (Zfw Go.Proofs.Tryz.prog glob (Z4i l)) (Zqd (Z4i l) TA) 100000 f ds UM) Go.Proofs.Tryz.prog 40 t = true
end Run
end
end Go.Abs
namespace Go.Abs
noncomputable section
namespace Run
open Go.Proofs Go.RowKit
set_option maxHeartbeats 100000000
set_option maxRecDepth 100000
theorem Z1e : rn [] 13 [] (Zhz) := by unfold rn; as_aux_lemma => kernel_rfl
end Run
end
end Go.Abs
namespace Go.Abs
noncomputable section
namespace Run
open Go.Proofs Go.RowKit
set_option maxHeartbeats 100000000
set_option maxRecDepth 100000
theorem Z8q : rn [(25,[Z5],Zgw),(30,[Z5],Zpf),(56,[Z5],iD 1)] 14 [Z5] (Vj) := by unfold rn; as_aux_lemma => kernel_rfl
end Run
end
end Go.Abs
namespace Go.Abs
noncomputable section
namespace Run
open Go.Proofs Go.RowKit
set_option maxHeartbeats 100000000
set_option maxRecDepth 100000
theorem Z1h : ((List.range 2).all fun i => Zjq (ZI (envO []) (tabO []) 100000 59 [Z5,iD i] UM) Go.Proofs.Tryz.prog 40 (nmD (Zeg i))) = true := by as_aux_lemma => kernel_rfl
end Run
end
end Go.Abs
namespace Go.Abs
noncomputable section
namespace Run
open Go.Proofs Go.RowKit
set_option maxHeartbeats 100000000
set_option maxRecDepth 100000
theorem Zxr : rnM [(25,[Z5],Zgw),(14,[Z5],Vj),(56,[Z5],iD 1)] 15 [Z5,.agg Zcx,iD 1048576] (VV) := by unfold rnM; as_aux_lemma => kernel_rfl
end Run
end
end Go.Abs
