/- The functions of the program are those of the run: printed by a program. -/
import Derived.Test.YtadigpaglappbaaQuick
import Derived.Test.YtadigpaglappbaaAbsTop
import Derived.Test.YtadigpaglappbaaLibs
import Derived.KernelRfl
import Derived.Test.YtadigpaglappbaaProg
set_option linter.unusedVariables false
namespace Go.Abs
namespace Run
def glob (g : Nat) : Option (List D) := none
def libs (f : Nat) : Option (List D → H → O D) :=
  bif Nat.beq f 8 then some (libP plPoint) else
  bif Nat.beq f 11 then some (libP plWakes) else
  bif Nat.beq f 16 then some (libP plBop) else
  bif Nat.beq f 17 then some (libP plAll) else
  bif Nat.beq f 18 then some (libName) else
  bif Nat.beq f 24 then some (libP plWop) else
  bif Nat.beq f 28 then some (libGet) else
  bif Nat.beq f 29 then some (libP plTruth) else
  none
def env (P : Program) : Env := envOf P glob libs
theorem l4 : Leaf (env Go.Proofs.Try.prog) 4 q4 := leaf_fast (m := 12) rfl (by kernel_rfl)
theorem l6 : Leaf (env Go.Proofs.Try.prog) 6 q6 := leaf_fast (m := 12) rfl (by kernel_rfl)
theorem l7 : Leaf (env Go.Proofs.Try.prog) 7 q7 := leaf_fast (m := 12) rfl (by kernel_rfl)
def q8 : FFn := flib (libP plPoint)
theorem l8 : Leaf (env Go.Proofs.Try.prog) 8 q8 := leaf_lib rfl
theorem l9 : Leaf (env Go.Proofs.Try.prog) 9 q9 := leaf_fast (m := 12) rfl (by kernel_rfl)
theorem l10 : Leaf (env Go.Proofs.Try.prog) 10 q10 := leaf_fast (m := 12) rfl (by kernel_rfl)
def q11 : FFn := flib (libP plWakes)
theorem l11 : Leaf (env Go.Proofs.Try.prog) 11 q11 := leaf_lib rfl
theorem l12 : Leaf (env Go.Proofs.Try.prog) 12 q12 := leaf_fast (m := 12) rfl (by kernel_rfl)
theorem l13 : Leaf (env Go.Proofs.Try.prog) 13 q13 := leaf_fast (m := 12) rfl (by kernel_rfl)
theorem l14 : Leaf (env Go.Proofs.Try.prog) 14 q14 := leaf_fast (m := 12) rfl (by kernel_rfl)
theorem l15 : Leaf (env Go.Proofs.Try.prog) 15 q15 := leaf_fast (m := 12) rfl (by kernel_rfl)
def q16 : FFn := flib (libP plBop)
theorem l16 : Leaf (env Go.Proofs.Try.prog) 16 q16 := leaf_lib rfl
def q17 : FFn := flib (libP plAll)
theorem l17 : Leaf (env Go.Proofs.Try.prog) 17 q17 := leaf_lib rfl
def q18 : FFn := flib (libName)
theorem l18 : Leaf (env Go.Proofs.Try.prog) 18 q18 := leaf_lib rfl
theorem l19 : Leaf (env Go.Proofs.Try.prog) 19 q19 := leaf_fast (m := 12) rfl (by kernel_rfl)
theorem l20 : Leaf (env Go.Proofs.Try.prog) 20 q20 := leaf_fast (m := 12) rfl (by kernel_rfl)
theorem l21 : Leaf (env Go.Proofs.Try.prog) 21 q21 := leaf_fast (m := 12) rfl (by kernel_rfl)
def q24 : FFn := flib (libP plWop)
theorem l24 : Leaf (env Go.Proofs.Try.prog) 24 q24 := leaf_lib rfl
def q28 : FFn := flib (libGet)
theorem l28 : Leaf (env Go.Proofs.Try.prog) 28 q28 := leaf_lib rfl
def q29 : FFn := flib (libP plTruth)
theorem l29 : Leaf (env Go.Proofs.Try.prog) 29 q29 := leaf_lib rfl
theorem l30 : Leaf (env Go.Proofs.Try.prog) 30 q30 := leaf_fast (m := 12) rfl (by kernel_rfl)
def T0 : Nat → FFn := tleaf 4 q4
theorem T0_ok : Tab (env Go.Proofs.Try.prog) T0 := tab_leaf l4
def T1 : Nat → FFn := tleaf 6 q6
theorem T1_ok : Tab (env Go.Proofs.Try.prog) T1 := tab_leaf l6
def T2 : Nat → FFn := tnode 6 T0 T1
theorem T2_ok : Tab (env Go.Proofs.Try.prog) T2 := tab_node T0_ok T1_ok
def T3 : Nat → FFn := tleaf 7 q7
theorem T3_ok : Tab (env Go.Proofs.Try.prog) T3 := tab_leaf l7
def T4 : Nat → FFn := tleaf 8 q8
theorem T4_ok : Tab (env Go.Proofs.Try.prog) T4 := tab_leaf l8
def T5 : Nat → FFn := tleaf 9 q9
theorem T5_ok : Tab (env Go.Proofs.Try.prog) T5 := tab_leaf l9
def T6 : Nat → FFn := tnode 9 T4 T5
theorem T6_ok : Tab (env Go.Proofs.Try.prog) T6 := tab_node T4_ok T5_ok
def T7 : Nat → FFn := tnode 8 T3 T6
theorem T7_ok : Tab (env Go.Proofs.Try.prog) T7 := tab_node T3_ok T6_ok
def T8 : Nat → FFn := tnode 7 T2 T7
theorem T8_ok : Tab (env Go.Proofs.Try.prog) T8 := tab_node T2_ok T7_ok
def T9 : Nat → FFn := tleaf 10 q10
theorem T9_ok : Tab (env Go.Proofs.Try.prog) T9 := tab_leaf l10
def T10 : Nat → FFn := tleaf 11 q11
theorem T10_ok : Tab (env Go.Proofs.Try.prog) T10 := tab_leaf l11
def T11 : Nat → FFn := tnode 11 T9 T10
theorem T11_ok : Tab (env Go.Proofs.Try.prog) T11 := tab_node T9_ok T10_ok
def T12 : Nat → FFn := tleaf 12 q12
theorem T12_ok : Tab (env Go.Proofs.Try.prog) T12 := tab_leaf l12
def T13 : Nat → FFn := tleaf 13 q13
theorem T13_ok : Tab (env Go.Proofs.Try.prog) T13 := tab_leaf l13
def T14 : Nat → FFn := tleaf 14 q14
theorem T14_ok : Tab (env Go.Proofs.Try.prog) T14 := tab_leaf l14
def T15 : Nat → FFn := tnode 14 T13 T14
theorem T15_ok : Tab (env Go.Proofs.Try.prog) T15 := tab_node T13_ok T14_ok
def T16 : Nat → FFn := tnode 13 T12 T15
theorem T16_ok : Tab (env Go.Proofs.Try.prog) T16 := tab_node T12_ok T15_ok
def T17 : Nat → FFn := tnode 12 T11 T16
theorem T17_ok : Tab (env Go.Proofs.Try.prog) T17 := tab_node T11_ok T16_ok
def T18 : Nat → FFn := tnode 10 T8 T17
theorem T18_ok : Tab (env Go.Proofs.Try.prog) T18 := tab_node T8_ok T17_ok
def T19 : Nat → FFn := tleaf 15 q15
theorem T19_ok : Tab (env Go.Proofs.Try.prog) T19 := tab_leaf l15
def T20 : Nat → FFn := tleaf 16 q16
theorem T20_ok : Tab (env Go.Proofs.Try.prog) T20 := tab_leaf l16
def T21 : Nat → FFn := tnode 16 T19 T20
theorem T21_ok : Tab (env Go.Proofs.Try.prog) T21 := tab_node T19_ok T20_ok
def T22 : Nat → FFn := tleaf 17 q17
theorem T22_ok : Tab (env Go.Proofs.Try.prog) T22 := tab_leaf l17
def T23 : Nat → FFn := tleaf 18 q18
theorem T23_ok : Tab (env Go.Proofs.Try.prog) T23 := tab_leaf l18
def T24 : Nat → FFn := tleaf 19 q19
theorem T24_ok : Tab (env Go.Proofs.Try.prog) T24 := tab_leaf l19
def T25 : Nat → FFn := tnode 19 T23 T24
theorem T25_ok : Tab (env Go.Proofs.Try.prog) T25 := tab_node T23_ok T24_ok
def T26 : Nat → FFn := tnode 18 T22 T25
theorem T26_ok : Tab (env Go.Proofs.Try.prog) T26 := tab_node T22_ok T25_ok
def T27 : Nat → FFn := tnode 17 T21 T26
theorem T27_ok : Tab (env Go.Proofs.Try.prog) T27 := tab_node T21_ok T26_ok
def T28 : Nat → FFn := tleaf 20 q20
theorem T28_ok : Tab (env Go.Proofs.Try.prog) T28 := tab_leaf l20
def T29 : Nat → FFn := tleaf 21 q21
theorem T29_ok : Tab (env Go.Proofs.Try.prog) T29 := tab_leaf l21
def T30 : Nat → FFn := tleaf 24 q24
theorem T30_ok : Tab (env Go.Proofs.Try.prog) T30 := tab_leaf l24
def T31 : Nat → FFn := tnode 24 T29 T30
theorem T31_ok : Tab (env Go.Proofs.Try.prog) T31 := tab_node T29_ok T30_ok
def T32 : Nat → FFn := tnode 21 T28 T31
theorem T32_ok : Tab (env Go.Proofs.Try.prog) T32 := tab_node T28_ok T31_ok
def T33 : Nat → FFn := tleaf 28 q28
theorem T33_ok : Tab (env Go.Proofs.Try.prog) T33 := tab_leaf l28
def T34 : Nat → FFn := tleaf 29 q29
theorem T34_ok : Tab (env Go.Proofs.Try.prog) T34 := tab_leaf l29
def T35 : Nat → FFn := tleaf 30 q30
theorem T35_ok : Tab (env Go.Proofs.Try.prog) T35 := tab_leaf l30
def T36 : Nat → FFn := tnode 30 T34 T35
theorem T36_ok : Tab (env Go.Proofs.Try.prog) T36 := tab_node T34_ok T35_ok
def T37 : Nat → FFn := tnode 29 T33 T36
theorem T37_ok : Tab (env Go.Proofs.Try.prog) T37 := tab_node T33_ok T36_ok
def T38 : Nat → FFn := tnode 28 T32 T37
theorem T38_ok : Tab (env Go.Proofs.Try.prog) T38 := tab_node T32_ok T37_ok
def T39 : Nat → FFn := tnode 20 T27 T38
theorem T39_ok : Tab (env Go.Proofs.Try.prog) T39 := tab_node T27_ok T38_ok
def T40 : Nat → FFn := tnode 15 T18 T39
theorem T40_ok : Tab (env Go.Proofs.Try.prog) T40 := tab_node T18_ok T39_ok
def TT : Nat → FFn := T40
theorem TT_ok : Tab (env Go.Proofs.Try.prog) TT := T40_ok
theorem tt4 : TT 4 = q4 := rfl
theorem tt6 : TT 6 = q6 := rfl
theorem tt7 : TT 7 = q7 := rfl
theorem tt8 : TT 8 = q8 := rfl
theorem tt9 : TT 9 = q9 := rfl
theorem tt10 : TT 10 = q10 := rfl
theorem tt11 : TT 11 = q11 := rfl
theorem tt12 : TT 12 = q12 := rfl
theorem tt13 : TT 13 = q13 := rfl
theorem tt14 : TT 14 = q14 := rfl
theorem tt15 : TT 15 = q15 := rfl
theorem tt16 : TT 16 = q16 := rfl
theorem tt17 : TT 17 = q17 := rfl
theorem tt18 : TT 18 = q18 := rfl
theorem tt19 : TT 19 = q19 := rfl
theorem tt20 : TT 20 = q20 := rfl
theorem tt21 : TT 21 = q21 := rfl
theorem tt24 : TT 24 = q24 := rfl
theorem tt28 : TT 28 = q28 := rfl
theorem tt29 : TT 29 = q29 := rfl
theorem tt30 : TT 30 = q30 := rfl
end Run
end Go.Abs
