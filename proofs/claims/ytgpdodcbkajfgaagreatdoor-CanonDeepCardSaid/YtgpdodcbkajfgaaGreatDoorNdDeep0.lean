/- The texts of so many structs, their words and trees. -/
import Derived.Test.YtgpdodcbkajfgaaGreatDoorNdLibS
import Derived.Test.YtgpdodcbkajfgaaGreatDoorNeTree
set_option linter.unusedVariables false
set_option linter.unusedSimpArgs false
namespace Go.Abs
namespace Run
open Go.Proofs Go.RowKit
def upTo {α : Type} (f : Nat → List α) : Nat → Nat → List α
  | 0, _ => []
  | n + 1, i => f i ++ upTo f n (i + 1)
def nmB (i : Nat) : List Nat := bif Nat.beq i 0 then [115, 48] else [115, 48 + i / 10, 48 + i % 10]
def tyB (i : Nat) : List Nat := bif Nat.beq i 0 then [117, 56] else nmB (i - 1)
def lineA (i : Nat) : List Nat := [115, 116, 114, 117, 99, 116, 32] ++ (nmB i ++ ([32, 123, 32, 97, 58, 32] ++ (tyB i ++ [59, 32, 125, 10])))
def lineB (i : Nat) : List Nat := [115, 116, 114, 117, 99, 116, 32] ++ (nmB i ++ ([32, 123, 10, 32, 32, 97, 58, 32] ++ (tyB i ++ [59, 10, 125, 10])))
def strA (k : Nat) : List Nat := upTo lineA (k + 1) 0
def strB (k : Nat) : List Nat := upTo lineB (k + 1) 0
def textA (k : Nat) : D := .str (strA k)
def textB (k : Nat) : D := .str (strB k)
def noErr : List D := [.agg [.int .i64 (.ofNat 0), .int .i64 (.ofNat 0)], .int .i64 (.ofNat 0)]
def nilS : D := .v (.slice none 0 0)
def itF (i : Nat) : It := ⟨[97], .ofNat i, 0, [], [], .negSucc 0, 0, false, []⟩
def scF (i : Nat) : List Sc := [⟨nmB i, [], [itF i]⟩]
def tyF (i : Nat) : List Ty := bif Nat.beq i 0 then [⟨0, 1, false, [], [], .negSucc 0, .negSucc 0, []⟩] else [⟨10, 0, false, nmB (i - 1), [], .negSucc 0, .negSucc 0, []⟩]
def fileF (k : Nat) : Fi := ⟨[], upTo scF (k + 1) 0, [], upTo tyF (k + 1) 0⟩
def YB (k : Nat) : D := fiT (fileF k)
def parsedT (k : Nat) : D := .tup (YB k :: noErr)
def rightT (k : Nat) : D := bif Nat.blt k 32 then .tup [.str [], .int .i64 (.ofNat 0)] else .tup [.str [115, 51, 50], .int .i64 (.ofNat 8)]
def clsT (k : Nat) : D := bif Nat.blt k 32 then .tup [.agg [.v (.bool true), .v (.bool true), nilS, nilS, .int .i64 (.ofNat (k + 1))], .int .i64 (.ofNat 0)] else .tup [.agg [.v (.bool false), .v (.bool false), nilS, nilS, .int .i64 (.ofNat 0)], .int .i64 (.ofNat 8)]
def usD (i : Nat) : List D := [.int .i64 (.ofNat i)]
def usedT (k : Nat) : D := .sl 0 (k + 1) (upTo usD (k + 1) 0)
noncomputable def libsO : List (Nat × List D × D) → Nat → Option (List D → H → O D)
  | [], f => libs0 f
  | x :: r, f => bif Nat.beq f x.1 then some (Yp x.2.1 x.2.2) else libsO r f
noncomputable def envO (l : List (Nat × List D × D)) : Env := envOf Tryz.prog glob (libsO l)
noncomputable def tabO (l : List (Nat × List D × D)) : Nat → FFn := tover (libsO l) TA
abbrev rn (l : List (Nat × List D × D)) (f : Nat) (ds : List D) (t : D) : Prop := isTree (Yb (envO l) (tabO l) 100000 f ds hTop) Tryz.prog 40 t = true
def iK (n : Nat) : D := .int .i64 (.ofNat n)
def nmL (i : Nat) : List Nat := bif Nat.beq i 0 then [] else [i - 1]
def nmT (l : List Nat) : D := match l with
  | [] => nilS
  | _ => .sl 0 l.length (l.map iK)
def okT : D := .tup [.str [], .int .i64 (.ofNat 0)]
def shownT (k : Nat) : D := .tup [textB k, .int .i64 (.ofNat 0)]
def yesT : D := .v (.bool true)
def upR (k : Nat) : Nat × List D × D := (16, [YB k], rightT k)
def upU (k : Nat) : Nat × List D × D := (37, [YB k], usedT k)
def lawL (k : Nat) : List (Nat × List D × D) := (25, [textA k], parsedT k) :: upR k :: (19, [YB k], clsT k) :: (17, [], yesT) :: (bif Nat.blt k 32 then [(20, [YB k], usedT k)] else [])
noncomputable def trees (k : Nat) : Bool := XZ Tryz.prog 41 [textA k] && XZ Tryz.prog 41 [textB k] && XZ Tryz.prog 40 [YB k] && D.same (YB k) (YB k)
noncomputable def namesOk (F : D) (nm : Nat → List Nat) (n : Nat) : Bool := (List.range n).all fun i => isTree (Yb (envO []) (tabO []) 100000 68 [F, iK i] hTop) Tryz.prog 40 (nmT (nm i)) && XZ Tryz.prog 40 [F, iK i]
noncomputable def lawOk (k : Nat) : Bool := (List.range 7).all fun j => bif Nat.blt (k + 40 * j) 256 then Go.Abs.isT (Yb (envO (lawL k)) (tabO (lawL k)) 100000 9 [.int .u8 (.ofNat (k + 40 * j))] hTop) else true
structure Deep (k : Nat) : Prop where
  pa : parseS (strA k) = .ok (fileF k)
  pb : parseS (strB k) = .ok (fileF k)
  sh : rn [(25, [textB k], parsedT k)] 90 [YB k] (shownT k)
  ma : rn [(90, [YB k], shownT k)] 59 [YB k] yesT
  ck : rn [(59, [YB k], yesT)] 29 [YB k] okT
  ri : rn [(29, [YB k], okT)] 16 [YB k] (rightT k)
  of : rn (bif Nat.blt k 32 then [upR k, upU k] else [upR k]) 19 [YB k] (clsT k)
  us : k < 32 → rn [upR k, upU k] 20 [YB k] (usedT k)
  nm : k < 32 → namesOk (YB k) nmL (k + 1) = true
  tr : trees k = true
  lw : lawOk k = true
theorem YE {k : Nat} (_ : k < 32) (pa : parseS (strA k) = .ok (fileF k)) (pb : parseS (strB k) = .ok (fileF k)) (sh : rn [(25, [textB k], parsedT k)] 90 [YB k] (shownT k)) (ma : rn [(90, [YB k], shownT k)] 59 [YB k] yesT) (ck : rn [(59, [YB k], yesT)] 29 [YB k] okT) (ri : rn [(29, [YB k], okT)] 16 [YB k] (rightT k)) (of : rn (bif Nat.blt k 32 then [upR k, upU k] else [upR k]) 19 [YB k] (clsT k)) (us : rn [upR k, upU k] 20 [YB k] (usedT k)) (nm : namesOk (YB k) nmL (k + 1) = true) (tr : trees k = true) (lw : lawOk k = true) : Deep k := ⟨pa, pb, sh, ma, ck, ri, of, fun _ => us, fun _ => nm, tr, lw⟩
theorem deepHi {k : Nat} (h : ¬ k < 32) (pa : parseS (strA k) = .ok (fileF k)) (pb : parseS (strB k) = .ok (fileF k)) (sh : rn [(25, [textB k], parsedT k)] 90 [YB k] (shownT k)) (ma : rn [(90, [YB k], shownT k)] 59 [YB k] yesT) (ck : rn [(59, [YB k], yesT)] 29 [YB k] okT) (ri : rn [(29, [YB k], okT)] 16 [YB k] (rightT k)) (of : rn (bif Nat.blt k 32 then [upR k, upU k] else [upR k]) 19 [YB k] (clsT k)) (tr : trees k = true) (lw : lawOk k = true) : Deep k := ⟨pa, pb, sh, ma, ck, ri, of, fun h2 => absurd h2 h, fun h2 => absurd h2 h, tr, lw⟩
end Run
end Go.Abs
