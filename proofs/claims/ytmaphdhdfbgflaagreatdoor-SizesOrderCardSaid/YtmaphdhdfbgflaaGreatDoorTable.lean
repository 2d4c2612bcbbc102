/- The functions of the program are those of the run: printed by a program. -/
import Derived.Test.YtmaphdhdfbgflaaGreatDoorQuick
import Derived.Test.YtmaphdhdfbgflaaGreatDoorAbsTop
import Derived.KernelRfl
import Derived.Test.YtmaphdhdfbgflaaGreatDoorProg
set_option linter.unusedVariables false
namespace Go.Abs
namespace Run
def glob (g : Nat) : Option (List D) := bif Nat.beq g 0 then some [.str [46, 46], .str [61, 61], .str [33, 61], .str [60, 61], .str [62, 61], .str [60, 60], .str [62, 62], .str [38, 38], .str [124, 124], .str [123], .str [125], .str [40], .str [41], .str [91], .str [93], .str [59], .str [58], .str [44], .str [61], .str [60], .str [62], .str [43], .str [45], .str [42], .str [47], .str [37], .str [38], .str [124], .str [33]] else none
def libs (P : Program) (f : Nat) : Option (List D → H → O D) :=
  bif Nat.beq f 25 then some (libExt P 25) else
  bif Nat.beq f 62 then some (libTrim) else
  bif Nat.beq f 104 then some (libString 5) else
  bif Nat.beq f 144 then some (libCheck 184) else
  bif Nat.beq f 206 then some (libName) else
  bif Nat.beq f 224 then some (libGet) else
  none
def env (P : Program) : Env := envOf P glob (libs P)
theorem l5 : Leaf (env Go.Proofs.Tryz.prog) 5 q5 := leaf_fast (m := 12) rfl (by kernel_rfl)
theorem l6 : Leaf (env Go.Proofs.Tryz.prog) 6 q6 := leaf_fast (m := 12) rfl (by kernel_rfl)
theorem l10 : Leaf (env Go.Proofs.Tryz.prog) 10 q10 := leaf_fast (m := 12) rfl (by kernel_rfl)
theorem l11 : Leaf (env Go.Proofs.Tryz.prog) 11 q11 := leaf_slow rfl (by kernel_rfl)
theorem l12 : Leaf (env Go.Proofs.Tryz.prog) 12 q12 := leaf_fast (m := 12) rfl (by kernel_rfl)
theorem l13 : Leaf (env Go.Proofs.Tryz.prog) 13 q13 := leaf_fast (m := 12) rfl (by kernel_rfl)
theorem l14 : Leaf (env Go.Proofs.Tryz.prog) 14 q14 := leaf_fast (m := 12) rfl (by kernel_rfl)
theorem l15 : Leaf (env Go.Proofs.Tryz.prog) 15 q15 := leaf_fast (m := 12) rfl (by kernel_rfl)
theorem l20 : Leaf (env Go.Proofs.Tryz.prog) 20 q20 := leaf_fast (m := 12) rfl (by kernel_rfl)
theorem l22 : Leaf (env Go.Proofs.Tryz.prog) 22 q22 := leaf_fast (m := 12) rfl (by kernel_rfl)
theorem l23 : Leaf (env Go.Proofs.Tryz.prog) 23 q23 := leaf_slow rfl (by kernel_rfl)
theorem l24 : Leaf (env Go.Proofs.Tryz.prog) 24 q24 := leaf_fast (m := 12) rfl (by kernel_rfl)
def q25 (P : Program) : FFn := flib (libExt P 25)
theorem l25 : Leaf (env Go.Proofs.Tryz.prog) 25 (q25 Go.Proofs.Tryz.prog) := leaf_lib rfl
theorem l26 : Leaf (env Go.Proofs.Tryz.prog) 26 q26 := leaf_fast (m := 12) rfl (by kernel_rfl)
theorem l31 : Leaf (env Go.Proofs.Tryz.prog) 31 q31 := leaf_fast (m := 12) rfl (by kernel_rfl)
theorem l32 : Leaf (env Go.Proofs.Tryz.prog) 32 q32 := leaf_fast (m := 12) rfl (by kernel_rfl)
theorem l33 : Leaf (env Go.Proofs.Tryz.prog) 33 q33 := leaf_fast (m := 12) rfl (by kernel_rfl)
theorem l34 : Leaf (env Go.Proofs.Tryz.prog) 34 q34 := leaf_fast (m := 12) rfl (by kernel_rfl)
theorem l35 : Leaf (env Go.Proofs.Tryz.prog) 35 q35 := leaf_fast (m := 12) rfl (by kernel_rfl)
theorem l37 : Leaf (env Go.Proofs.Tryz.prog) 37 q37 := leaf_fast (m := 12) rfl (by kernel_rfl)
theorem l38 : Leaf (env Go.Proofs.Tryz.prog) 38 q38 := leaf_fast (m := 12) rfl (by kernel_rfl)
theorem l40 : Leaf (env Go.Proofs.Tryz.prog) 40 q40 := leaf_fast (m := 12) rfl (by kernel_rfl)
theorem l42 : Leaf (env Go.Proofs.Tryz.prog) 42 q42 := leaf_fast (m := 12) rfl (by kernel_rfl)
theorem l43 : Leaf (env Go.Proofs.Tryz.prog) 43 q43 := leaf_fast (m := 12) rfl (by kernel_rfl)
theorem l44 : Leaf (env Go.Proofs.Tryz.prog) 44 q44 := leaf_fast (m := 12) rfl (by kernel_rfl)
theorem l45 : Leaf (env Go.Proofs.Tryz.prog) 45 q45 := leaf_fast (m := 12) rfl (by kernel_rfl)
theorem l47 : Leaf (env Go.Proofs.Tryz.prog) 47 q47 := leaf_fast (m := 12) rfl (by kernel_rfl)
theorem l48 : Leaf (env Go.Proofs.Tryz.prog) 48 q48 := leaf_fast (m := 12) rfl (by kernel_rfl)
theorem l49 : Leaf (env Go.Proofs.Tryz.prog) 49 q49 := leaf_fast (m := 12) rfl (by kernel_rfl)
theorem l50 : Leaf (env Go.Proofs.Tryz.prog) 50 q50 := leaf_fast (m := 12) rfl (by kernel_rfl)
theorem l51 : Leaf (env Go.Proofs.Tryz.prog) 51 q51 := leaf_fast (m := 12) rfl (by kernel_rfl)
theorem l52 : Leaf (env Go.Proofs.Tryz.prog) 52 q52 := leaf_fast (m := 12) rfl (by kernel_rfl)
theorem l54 : Leaf (env Go.Proofs.Tryz.prog) 54 q54 := leaf_fast (m := 12) rfl (by kernel_rfl)
theorem l55 : Leaf (env Go.Proofs.Tryz.prog) 55 q55 := leaf_fast (m := 12) rfl (by kernel_rfl)
theorem l56 : Leaf (env Go.Proofs.Tryz.prog) 56 q56 := leaf_fast (m := 12) rfl (by kernel_rfl)
theorem l59 : Leaf (env Go.Proofs.Tryz.prog) 59 q59 := leaf_fast (m := 12) rfl (by kernel_rfl)
theorem l60 : Leaf (env Go.Proofs.Tryz.prog) 60 q60 := leaf_fast (m := 12) rfl (by kernel_rfl)
theorem l61 : Leaf (env Go.Proofs.Tryz.prog) 61 q61 := leaf_fast (m := 12) rfl (by kernel_rfl)
def q62 (P : Program) : FFn := flib (libTrim)
theorem l62 : Leaf (env Go.Proofs.Tryz.prog) 62 (q62 Go.Proofs.Tryz.prog) := leaf_lib rfl
theorem l63 : Leaf (env Go.Proofs.Tryz.prog) 63 q63 := leaf_fast (m := 12) rfl (by kernel_rfl)
theorem l65 : Leaf (env Go.Proofs.Tryz.prog) 65 q65 := leaf_fast (m := 12) rfl (by kernel_rfl)
theorem l66 : Leaf (env Go.Proofs.Tryz.prog) 66 q66 := leaf_fast (m := 12) rfl (by kernel_rfl)
theorem l67 : Leaf (env Go.Proofs.Tryz.prog) 67 q67 := leaf_fast (m := 12) rfl (by kernel_rfl)
theorem l68 : Leaf (env Go.Proofs.Tryz.prog) 68 q68 := leaf_fast (m := 12) rfl (by kernel_rfl)
theorem l69 : Leaf (env Go.Proofs.Tryz.prog) 69 q69 := leaf_fast (m := 12) rfl (by kernel_rfl)
theorem l71 : Leaf (env Go.Proofs.Tryz.prog) 71 q71 := leaf_fast (m := 12) rfl (by kernel_rfl)
theorem l72 : Leaf (env Go.Proofs.Tryz.prog) 72 q72 := leaf_fast (m := 12) rfl (by kernel_rfl)
theorem l73 : Leaf (env Go.Proofs.Tryz.prog) 73 q73 := leaf_fast (m := 12) rfl (by kernel_rfl)
theorem l74 : Leaf (env Go.Proofs.Tryz.prog) 74 q74 := leaf_fast (m := 12) rfl (by kernel_rfl)
theorem l76 : Leaf (env Go.Proofs.Tryz.prog) 76 q76 := leaf_fast (m := 12) rfl (by kernel_rfl)
theorem l77 : Leaf (env Go.Proofs.Tryz.prog) 77 q77 := leaf_fast (m := 12) rfl (by kernel_rfl)
theorem l79 : Leaf (env Go.Proofs.Tryz.prog) 79 q79 := leaf_fast (m := 12) rfl (by kernel_rfl)
theorem l80 : Leaf (env Go.Proofs.Tryz.prog) 80 q80 := leaf_fast (m := 12) rfl (by kernel_rfl)
theorem l81 : Leaf (env Go.Proofs.Tryz.prog) 81 q81 := leaf_fast (m := 12) rfl (by kernel_rfl)
theorem l83 : Leaf (env Go.Proofs.Tryz.prog) 83 q83 := leaf_fast (m := 12) rfl (by kernel_rfl)
theorem l84 : Leaf (env Go.Proofs.Tryz.prog) 84 q84 := leaf_fast (m := 12) rfl (by kernel_rfl)
theorem l87 : Leaf (env Go.Proofs.Tryz.prog) 87 q87 := leaf_fast (m := 12) rfl (by kernel_rfl)
theorem l88 : Leaf (env Go.Proofs.Tryz.prog) 88 q88 := leaf_fast (m := 12) rfl (by kernel_rfl)
theorem l90 : Leaf (env Go.Proofs.Tryz.prog) 90 q90 := leaf_fast (m := 12) rfl (by kernel_rfl)
theorem l91 : Leaf (env Go.Proofs.Tryz.prog) 91 q91 := leaf_fast (m := 12) rfl (by kernel_rfl)
theorem l93 : Leaf (env Go.Proofs.Tryz.prog) 93 q93 := leaf_fast (m := 12) rfl (by kernel_rfl)
theorem l94 : Leaf (env Go.Proofs.Tryz.prog) 94 q94 := leaf_fast (m := 12) rfl (by kernel_rfl)
theorem l95 : Leaf (env Go.Proofs.Tryz.prog) 95 q95 := leaf_fast (m := 12) rfl (by kernel_rfl)
theorem l96 : Leaf (env Go.Proofs.Tryz.prog) 96 q96 := leaf_fast (m := 12) rfl (by kernel_rfl)
theorem l97 : Leaf (env Go.Proofs.Tryz.prog) 97 q97 := leaf_fast (m := 12) rfl (by kernel_rfl)
theorem l98 : Leaf (env Go.Proofs.Tryz.prog) 98 q98 := leaf_fast (m := 12) rfl (by kernel_rfl)
theorem l100 : Leaf (env Go.Proofs.Tryz.prog) 100 q100 := leaf_fast (m := 12) rfl (by kernel_rfl)
theorem l101 : Leaf (env Go.Proofs.Tryz.prog) 101 q101 := leaf_fast (m := 12) rfl (by kernel_rfl)
theorem l102 : Leaf (env Go.Proofs.Tryz.prog) 102 q102 := leaf_fast (m := 12) rfl (by kernel_rfl)
theorem l103 : Leaf (env Go.Proofs.Tryz.prog) 103 q103 := leaf_fast (m := 12) rfl (by kernel_rfl)
def q104 (P : Program) : FFn := flib (libString 5)
theorem l104 : Leaf (env Go.Proofs.Tryz.prog) 104 (q104 Go.Proofs.Tryz.prog) := leaf_lib rfl
theorem l105 : Leaf (env Go.Proofs.Tryz.prog) 105 q105 := leaf_fast (m := 12) rfl (by kernel_rfl)
theorem l106 : Leaf (env Go.Proofs.Tryz.prog) 106 q106 := leaf_fast (m := 12) rfl (by kernel_rfl)
theorem l107 : Leaf (env Go.Proofs.Tryz.prog) 107 q107 := leaf_fast (m := 12) rfl (by kernel_rfl)
theorem l108 : Leaf (env Go.Proofs.Tryz.prog) 108 q108 := leaf_fast (m := 12) rfl (by kernel_rfl)
theorem l109 : Leaf (env Go.Proofs.Tryz.prog) 109 q109 := leaf_fast (m := 12) rfl (by kernel_rfl)
theorem l110 : Leaf (env Go.Proofs.Tryz.prog) 110 q110 := leaf_fast (m := 12) rfl (by kernel_rfl)
theorem l111 : Leaf (env Go.Proofs.Tryz.prog) 111 q111 := leaf_fast (m := 12) rfl (by kernel_rfl)
theorem l112 : Leaf (env Go.Proofs.Tryz.prog) 112 q112 := leaf_fast (m := 12) rfl (by kernel_rfl)
theorem l115 : Leaf (env Go.Proofs.Tryz.prog) 115 q115 := leaf_fast (m := 12) rfl (by kernel_rfl)
theorem l116 : Leaf (env Go.Proofs.Tryz.prog) 116 q116 := leaf_fast (m := 12) rfl (by kernel_rfl)
theorem l117 : Leaf (env Go.Proofs.Tryz.prog) 117 q117 := leaf_fast (m := 12) rfl (by kernel_rfl)
theorem l118 : Leaf (env Go.Proofs.Tryz.prog) 118 q118 := leaf_fast (m := 12) rfl (by kernel_rfl)
theorem l119 : Leaf (env Go.Proofs.Tryz.prog) 119 q119 := leaf_fast (m := 12) rfl (by kernel_rfl)
theorem l120 : Leaf (env Go.Proofs.Tryz.prog) 120 q120 := leaf_fast (m := 12) rfl (by kernel_rfl)
theorem l121 : Leaf (env Go.Proofs.Tryz.prog) 121 q121 := leaf_fast (m := 12) rfl (by kernel_rfl)
theorem l122 : Leaf (env Go.Proofs.Tryz.prog) 122 q122 := leaf_fast (m := 12) rfl (by kernel_rfl)
theorem l123 : Leaf (env Go.Proofs.Tryz.prog) 123 q123 := leaf_fast (m := 12) rfl (by kernel_rfl)
theorem l125 : Leaf (env Go.Proofs.Tryz.prog) 125 q125 := leaf_fast (m := 12) rfl (by kernel_rfl)
theorem l132 : Leaf (env Go.Proofs.Tryz.prog) 132 q132 := leaf_fast (m := 12) rfl (by kernel_rfl)
theorem l140 : Leaf (env Go.Proofs.Tryz.prog) 140 q140 := leaf_fast (m := 12) rfl (by kernel_rfl)
theorem l141 : Leaf (env Go.Proofs.Tryz.prog) 141 q141 := leaf_fast (m := 12) rfl (by kernel_rfl)
theorem l142 : Leaf (env Go.Proofs.Tryz.prog) 142 q142 := leaf_fast (m := 12) rfl (by kernel_rfl)
theorem l143 : Leaf (env Go.Proofs.Tryz.prog) 143 q143 := leaf_fast (m := 12) rfl (by kernel_rfl)
def q144 (P : Program) : FFn := flib (libCheck 184)
theorem l144 : Leaf (env Go.Proofs.Tryz.prog) 144 (q144 Go.Proofs.Tryz.prog) := leaf_lib rfl
theorem l145 : Leaf (env Go.Proofs.Tryz.prog) 145 q145 := leaf_fast (m := 12) rfl (by kernel_rfl)
theorem l147 : Leaf (env Go.Proofs.Tryz.prog) 147 q147 := leaf_fast (m := 12) rfl (by kernel_rfl)
theorem l148 : Leaf (env Go.Proofs.Tryz.prog) 148 q148 := leaf_fast (m := 12) rfl (by kernel_rfl)
theorem l149 : Leaf (env Go.Proofs.Tryz.prog) 149 q149 := leaf_fast (m := 12) rfl (by kernel_rfl)
theorem l150 : Leaf (env Go.Proofs.Tryz.prog) 150 q150 := leaf_fast (m := 12) rfl (by kernel_rfl)
theorem l151 : Leaf (env Go.Proofs.Tryz.prog) 151 q151 := leaf_fast (m := 12) rfl (by kernel_rfl)
theorem l152 : Leaf (env Go.Proofs.Tryz.prog) 152 q152 := leaf_fast (m := 12) rfl (by kernel_rfl)
theorem l156 : Leaf (env Go.Proofs.Tryz.prog) 156 q156 := leaf_fast (m := 12) rfl (by kernel_rfl)
theorem l159 : Leaf (env Go.Proofs.Tryz.prog) 159 q159 := leaf_fast (m := 12) rfl (by kernel_rfl)
theorem l169 : Leaf (env Go.Proofs.Tryz.prog) 169 q169 := leaf_fast (m := 12) rfl (by kernel_rfl)
theorem l175 : Leaf (env Go.Proofs.Tryz.prog) 175 q175 := leaf_fast (m := 12) rfl (by kernel_rfl)
theorem l176 : Leaf (env Go.Proofs.Tryz.prog) 176 q176 := leaf_fast (m := 12) rfl (by kernel_rfl)
theorem l177 : Leaf (env Go.Proofs.Tryz.prog) 177 q177 := leaf_fast (m := 12) rfl (by kernel_rfl)
theorem l178 : Leaf (env Go.Proofs.Tryz.prog) 178 q178 := leaf_fast (m := 12) rfl (by kernel_rfl)
theorem l185 : Leaf (env Go.Proofs.Tryz.prog) 185 q185 := leaf_fast (m := 12) rfl (by kernel_rfl)
theorem l186 : Leaf (env Go.Proofs.Tryz.prog) 186 q186 := leaf_fast (m := 12) rfl (by kernel_rfl)
theorem l196 : Leaf (env Go.Proofs.Tryz.prog) 196 q196 := leaf_fast (m := 12) rfl (by kernel_rfl)
theorem l199 : Leaf (env Go.Proofs.Tryz.prog) 199 q199 := leaf_fast (m := 12) rfl (by kernel_rfl)
theorem l204 : Leaf (env Go.Proofs.Tryz.prog) 204 q204 := leaf_fast (m := 12) rfl (by kernel_rfl)
theorem l205 : Leaf (env Go.Proofs.Tryz.prog) 205 q205 := leaf_fast (m := 12) rfl (by kernel_rfl)
def q206 (P : Program) : FFn := flib (libName)
theorem l206 : Leaf (env Go.Proofs.Tryz.prog) 206 (q206 Go.Proofs.Tryz.prog) := leaf_lib rfl
theorem l208 : Leaf (env Go.Proofs.Tryz.prog) 208 q208 := leaf_fast (m := 12) rfl (by kernel_rfl)
theorem l213 : Leaf (env Go.Proofs.Tryz.prog) 213 q213 := leaf_fast (m := 12) rfl (by kernel_rfl)
theorem l214 : Leaf (env Go.Proofs.Tryz.prog) 214 q214 := leaf_fast (m := 12) rfl (by kernel_rfl)
theorem l216 : Leaf (env Go.Proofs.Tryz.prog) 216 q216 := leaf_fast (m := 12) rfl (by kernel_rfl)
theorem l217 : Leaf (env Go.Proofs.Tryz.prog) 217 q217 := leaf_fast (m := 12) rfl (by kernel_rfl)
theorem l218 : Leaf (env Go.Proofs.Tryz.prog) 218 q218 := leaf_fast (m := 12) rfl (by kernel_rfl)
theorem l219 : Leaf (env Go.Proofs.Tryz.prog) 219 q219 := leaf_fast (m := 12) rfl (by kernel_rfl)
theorem l220 : Leaf (env Go.Proofs.Tryz.prog) 220 q220 := leaf_fast (m := 12) rfl (by kernel_rfl)
theorem l222 : Leaf (env Go.Proofs.Tryz.prog) 222 q222 := leaf_fast (m := 12) rfl (by kernel_rfl)
theorem l223 : Leaf (env Go.Proofs.Tryz.prog) 223 q223 := leaf_fast (m := 12) rfl (by kernel_rfl)
def q224 (P : Program) : FFn := flib (libGet)
theorem l224 : Leaf (env Go.Proofs.Tryz.prog) 224 (q224 Go.Proofs.Tryz.prog) := leaf_lib rfl
theorem l226 : Leaf (env Go.Proofs.Tryz.prog) 226 q226 := leaf_fast (m := 12) rfl (by kernel_rfl)
theorem l234 : Leaf (env Go.Proofs.Tryz.prog) 234 q234 := leaf_fast (m := 12) rfl (by kernel_rfl)
theorem l238 : Leaf (env Go.Proofs.Tryz.prog) 238 q238 := leaf_fast (m := 12) rfl (by kernel_rfl)
theorem l239 : Leaf (env Go.Proofs.Tryz.prog) 239 q239 := leaf_fast (m := 12) rfl (by kernel_rfl)
def T0 (P : Program) : Nat → FFn := tleaf 5 q5
theorem T0_ok : Tab (env Go.Proofs.Tryz.prog) (T0 Go.Proofs.Tryz.prog) := tab_leaf l5
def T1 (P : Program) : Nat → FFn := tleaf 6 q6
theorem T1_ok : Tab (env Go.Proofs.Tryz.prog) (T1 Go.Proofs.Tryz.prog) := tab_leaf l6
def T2 (P : Program) : Nat → FFn := tnode 6 (T0 P) (T1 P)
theorem T2_ok : Tab (env Go.Proofs.Tryz.prog) (T2 Go.Proofs.Tryz.prog) := tab_node T0_ok T1_ok
def T3 (P : Program) : Nat → FFn := tleaf 10 q10
theorem T3_ok : Tab (env Go.Proofs.Tryz.prog) (T3 Go.Proofs.Tryz.prog) := tab_leaf l10
def T4 (P : Program) : Nat → FFn := tleaf 11 q11
theorem T4_ok : Tab (env Go.Proofs.Tryz.prog) (T4 Go.Proofs.Tryz.prog) := tab_leaf l11
def T5 (P : Program) : Nat → FFn := tnode 11 (T3 P) (T4 P)
theorem T5_ok : Tab (env Go.Proofs.Tryz.prog) (T5 Go.Proofs.Tryz.prog) := tab_node T3_ok T4_ok
def T6 (P : Program) : Nat → FFn := tnode 10 (T2 P) (T5 P)
theorem T6_ok : Tab (env Go.Proofs.Tryz.prog) (T6 Go.Proofs.Tryz.prog) := tab_node T2_ok T5_ok
def T7 (P : Program) : Nat → FFn := tleaf 12 q12
theorem T7_ok : Tab (env Go.Proofs.Tryz.prog) (T7 Go.Proofs.Tryz.prog) := tab_leaf l12
def T8 (P : Program) : Nat → FFn := tleaf 13 q13
theorem T8_ok : Tab (env Go.Proofs.Tryz.prog) (T8 Go.Proofs.Tryz.prog) := tab_leaf l13
def T9 (P : Program) : Nat → FFn := tnode 13 (T7 P) (T8 P)
theorem T9_ok : Tab (env Go.Proofs.Tryz.prog) (T9 Go.Proofs.Tryz.prog) := tab_node T7_ok T8_ok
def T10 (P : Program) : Nat → FFn := tleaf 14 q14
theorem T10_ok : Tab (env Go.Proofs.Tryz.prog) (T10 Go.Proofs.Tryz.prog) := tab_leaf l14
def T11 (P : Program) : Nat → FFn := tleaf 15 q15
theorem T11_ok : Tab (env Go.Proofs.Tryz.prog) (T11 Go.Proofs.Tryz.prog) := tab_leaf l15
def T12 (P : Program) : Nat → FFn := tnode 15 (T10 P) (T11 P)
theorem T12_ok : Tab (env Go.Proofs.Tryz.prog) (T12 Go.Proofs.Tryz.prog) := tab_node T10_ok T11_ok
def T13 (P : Program) : Nat → FFn := tnode 14 (T9 P) (T12 P)
theorem T13_ok : Tab (env Go.Proofs.Tryz.prog) (T13 Go.Proofs.Tryz.prog) := tab_node T9_ok T12_ok
def T14 (P : Program) : Nat → FFn := tnode 12 (T6 P) (T13 P)
theorem T14_ok : Tab (env Go.Proofs.Tryz.prog) (T14 Go.Proofs.Tryz.prog) := tab_node T6_ok T13_ok
def T15 (P : Program) : Nat → FFn := tleaf 20 q20
theorem T15_ok : Tab (env Go.Proofs.Tryz.prog) (T15 Go.Proofs.Tryz.prog) := tab_leaf l20
def T16 (P : Program) : Nat → FFn := tleaf 22 q22
theorem T16_ok : Tab (env Go.Proofs.Tryz.prog) (T16 Go.Proofs.Tryz.prog) := tab_leaf l22
def T17 (P : Program) : Nat → FFn := tnode 22 (T15 P) (T16 P)
theorem T17_ok : Tab (env Go.Proofs.Tryz.prog) (T17 Go.Proofs.Tryz.prog) := tab_node T15_ok T16_ok
def T18 (P : Program) : Nat → FFn := tleaf 23 q23
theorem T18_ok : Tab (env Go.Proofs.Tryz.prog) (T18 Go.Proofs.Tryz.prog) := tab_leaf l23
def T19 (P : Program) : Nat → FFn := tleaf 24 q24
theorem T19_ok : Tab (env Go.Proofs.Tryz.prog) (T19 Go.Proofs.Tryz.prog) := tab_leaf l24
def T20 (P : Program) : Nat → FFn := tnode 24 (T18 P) (T19 P)
theorem T20_ok : Tab (env Go.Proofs.Tryz.prog) (T20 Go.Proofs.Tryz.prog) := tab_node T18_ok T19_ok
def T21 (P : Program) : Nat → FFn := tnode 23 (T17 P) (T20 P)
theorem T21_ok : Tab (env Go.Proofs.Tryz.prog) (T21 Go.Proofs.Tryz.prog) := tab_node T17_ok T20_ok
def T22 (P : Program) : Nat → FFn := tleaf 25 (q25 P)
theorem T22_ok : Tab (env Go.Proofs.Tryz.prog) (T22 Go.Proofs.Tryz.prog) := tab_leaf l25
def T23 (P : Program) : Nat → FFn := tleaf 26 q26
theorem T23_ok : Tab (env Go.Proofs.Tryz.prog) (T23 Go.Proofs.Tryz.prog) := tab_leaf l26
def T24 (P : Program) : Nat → FFn := tnode 26 (T22 P) (T23 P)
theorem T24_ok : Tab (env Go.Proofs.Tryz.prog) (T24 Go.Proofs.Tryz.prog) := tab_node T22_ok T23_ok
def T25 (P : Program) : Nat → FFn := tleaf 31 q31
theorem T25_ok : Tab (env Go.Proofs.Tryz.prog) (T25 Go.Proofs.Tryz.prog) := tab_leaf l31
def T26 (P : Program) : Nat → FFn := tleaf 32 q32
theorem T26_ok : Tab (env Go.Proofs.Tryz.prog) (T26 Go.Proofs.Tryz.prog) := tab_leaf l32
def T27 (P : Program) : Nat → FFn := tnode 32 (T25 P) (T26 P)
theorem T27_ok : Tab (env Go.Proofs.Tryz.prog) (T27 Go.Proofs.Tryz.prog) := tab_node T25_ok T26_ok
def T28 (P : Program) : Nat → FFn := tnode 31 (T24 P) (T27 P)
theorem T28_ok : Tab (env Go.Proofs.Tryz.prog) (T28 Go.Proofs.Tryz.prog) := tab_node T24_ok T27_ok
def T29 (P : Program) : Nat → FFn := tnode 25 (T21 P) (T28 P)
theorem T29_ok : Tab (env Go.Proofs.Tryz.prog) (T29 Go.Proofs.Tryz.prog) := tab_node T21_ok T28_ok
def T30 (P : Program) : Nat → FFn := tnode 20 (T14 P) (T29 P)
theorem T30_ok : Tab (env Go.Proofs.Tryz.prog) (T30 Go.Proofs.Tryz.prog) := tab_node T14_ok T29_ok
def T31 (P : Program) : Nat → FFn := tleaf 33 q33
theorem T31_ok : Tab (env Go.Proofs.Tryz.prog) (T31 Go.Proofs.Tryz.prog) := tab_leaf l33
def T32 (P : Program) : Nat → FFn := tleaf 34 q34
theorem T32_ok : Tab (env Go.Proofs.Tryz.prog) (T32 Go.Proofs.Tryz.prog) := tab_leaf l34
def T33 (P : Program) : Nat → FFn := tnode 34 (T31 P) (T32 P)
theorem T33_ok : Tab (env Go.Proofs.Tryz.prog) (T33 Go.Proofs.Tryz.prog) := tab_node T31_ok T32_ok
def T34 (P : Program) : Nat → FFn := tleaf 35 q35
theorem T34_ok : Tab (env Go.Proofs.Tryz.prog) (T34 Go.Proofs.Tryz.prog) := tab_leaf l35
def T35 (P : Program) : Nat → FFn := tleaf 37 q37
theorem T35_ok : Tab (env Go.Proofs.Tryz.prog) (T35 Go.Proofs.Tryz.prog) := tab_leaf l37
def T36 (P : Program) : Nat → FFn := tnode 37 (T34 P) (T35 P)
theorem T36_ok : Tab (env Go.Proofs.Tryz.prog) (T36 Go.Proofs.Tryz.prog) := tab_node T34_ok T35_ok
def T37 (P : Program) : Nat → FFn := tnode 35 (T33 P) (T36 P)
theorem T37_ok : Tab (env Go.Proofs.Tryz.prog) (T37 Go.Proofs.Tryz.prog) := tab_node T33_ok T36_ok
def T38 (P : Program) : Nat → FFn := tleaf 38 q38
theorem T38_ok : Tab (env Go.Proofs.Tryz.prog) (T38 Go.Proofs.Tryz.prog) := tab_leaf l38
def T39 (P : Program) : Nat → FFn := tleaf 40 q40
theorem T39_ok : Tab (env Go.Proofs.Tryz.prog) (T39 Go.Proofs.Tryz.prog) := tab_leaf l40
def T40 (P : Program) : Nat → FFn := tnode 40 (T38 P) (T39 P)
theorem T40_ok : Tab (env Go.Proofs.Tryz.prog) (T40 Go.Proofs.Tryz.prog) := tab_node T38_ok T39_ok
def T41 (P : Program) : Nat → FFn := tleaf 42 q42
theorem T41_ok : Tab (env Go.Proofs.Tryz.prog) (T41 Go.Proofs.Tryz.prog) := tab_leaf l42
def T42 (P : Program) : Nat → FFn := tleaf 43 q43
theorem T42_ok : Tab (env Go.Proofs.Tryz.prog) (T42 Go.Proofs.Tryz.prog) := tab_leaf l43
def T43 (P : Program) : Nat → FFn := tnode 43 (T41 P) (T42 P)
theorem T43_ok : Tab (env Go.Proofs.Tryz.prog) (T43 Go.Proofs.Tryz.prog) := tab_node T41_ok T42_ok
def T44 (P : Program) : Nat → FFn := tnode 42 (T40 P) (T43 P)
theorem T44_ok : Tab (env Go.Proofs.Tryz.prog) (T44 Go.Proofs.Tryz.prog) := tab_node T40_ok T43_ok
def T45 (P : Program) : Nat → FFn := tnode 38 (T37 P) (T44 P)
theorem T45_ok : Tab (env Go.Proofs.Tryz.prog) (T45 Go.Proofs.Tryz.prog) := tab_node T37_ok T44_ok
def T46 (P : Program) : Nat → FFn := tleaf 44 q44
theorem T46_ok : Tab (env Go.Proofs.Tryz.prog) (T46 Go.Proofs.Tryz.prog) := tab_leaf l44
def T47 (P : Program) : Nat → FFn := tleaf 45 q45
theorem T47_ok : Tab (env Go.Proofs.Tryz.prog) (T47 Go.Proofs.Tryz.prog) := tab_leaf l45
def T48 (P : Program) : Nat → FFn := tnode 45 (T46 P) (T47 P)
theorem T48_ok : Tab (env Go.Proofs.Tryz.prog) (T48 Go.Proofs.Tryz.prog) := tab_node T46_ok T47_ok
def T49 (P : Program) : Nat → FFn := tleaf 47 q47
theorem T49_ok : Tab (env Go.Proofs.Tryz.prog) (T49 Go.Proofs.Tryz.prog) := tab_leaf l47
def T50 (P : Program) : Nat → FFn := tleaf 48 q48
theorem T50_ok : Tab (env Go.Proofs.Tryz.prog) (T50 Go.Proofs.Tryz.prog) := tab_leaf l48
def T51 (P : Program) : Nat → FFn := tnode 48 (T49 P) (T50 P)
theorem T51_ok : Tab (env Go.Proofs.Tryz.prog) (T51 Go.Proofs.Tryz.prog) := tab_node T49_ok T50_ok
def T52 (P : Program) : Nat → FFn := tnode 47 (T48 P) (T51 P)
theorem T52_ok : Tab (env Go.Proofs.Tryz.prog) (T52 Go.Proofs.Tryz.prog) := tab_node T48_ok T51_ok
def T53 (P : Program) : Nat → FFn := tleaf 49 q49
theorem T53_ok : Tab (env Go.Proofs.Tryz.prog) (T53 Go.Proofs.Tryz.prog) := tab_leaf l49
def T54 (P : Program) : Nat → FFn := tleaf 50 q50
theorem T54_ok : Tab (env Go.Proofs.Tryz.prog) (T54 Go.Proofs.Tryz.prog) := tab_leaf l50
def T55 (P : Program) : Nat → FFn := tnode 50 (T53 P) (T54 P)
theorem T55_ok : Tab (env Go.Proofs.Tryz.prog) (T55 Go.Proofs.Tryz.prog) := tab_node T53_ok T54_ok
def T56 (P : Program) : Nat → FFn := tleaf 51 q51
theorem T56_ok : Tab (env Go.Proofs.Tryz.prog) (T56 Go.Proofs.Tryz.prog) := tab_leaf l51
def T57 (P : Program) : Nat → FFn := tleaf 52 q52
theorem T57_ok : Tab (env Go.Proofs.Tryz.prog) (T57 Go.Proofs.Tryz.prog) := tab_leaf l52
def T58 (P : Program) : Nat → FFn := tnode 52 (T56 P) (T57 P)
theorem T58_ok : Tab (env Go.Proofs.Tryz.prog) (T58 Go.Proofs.Tryz.prog) := tab_node T56_ok T57_ok
def T59 (P : Program) : Nat → FFn := tnode 51 (T55 P) (T58 P)
theorem T59_ok : Tab (env Go.Proofs.Tryz.prog) (T59 Go.Proofs.Tryz.prog) := tab_node T55_ok T58_ok
def T60 (P : Program) : Nat → FFn := tnode 49 (T52 P) (T59 P)
theorem T60_ok : Tab (env Go.Proofs.Tryz.prog) (T60 Go.Proofs.Tryz.prog) := tab_node T52_ok T59_ok
def T61 (P : Program) : Nat → FFn := tnode 44 (T45 P) (T60 P)
theorem T61_ok : Tab (env Go.Proofs.Tryz.prog) (T61 Go.Proofs.Tryz.prog) := tab_node T45_ok T60_ok
def T62 (P : Program) : Nat → FFn := tnode 33 (T30 P) (T61 P)
theorem T62_ok : Tab (env Go.Proofs.Tryz.prog) (T62 Go.Proofs.Tryz.prog) := tab_node T30_ok T61_ok
def T63 (P : Program) : Nat → FFn := tleaf 54 q54
theorem T63_ok : Tab (env Go.Proofs.Tryz.prog) (T63 Go.Proofs.Tryz.prog) := tab_leaf l54
def T64 (P : Program) : Nat → FFn := tleaf 55 q55
theorem T64_ok : Tab (env Go.Proofs.Tryz.prog) (T64 Go.Proofs.Tryz.prog) := tab_leaf l55
def T65 (P : Program) : Nat → FFn := tnode 55 (T63 P) (T64 P)
theorem T65_ok : Tab (env Go.Proofs.Tryz.prog) (T65 Go.Proofs.Tryz.prog) := tab_node T63_ok T64_ok
def T66 (P : Program) : Nat → FFn := tleaf 56 q56
theorem T66_ok : Tab (env Go.Proofs.Tryz.prog) (T66 Go.Proofs.Tryz.prog) := tab_leaf l56
def T67 (P : Program) : Nat → FFn := tleaf 59 q59
theorem T67_ok : Tab (env Go.Proofs.Tryz.prog) (T67 Go.Proofs.Tryz.prog) := tab_leaf l59
def T68 (P : Program) : Nat → FFn := tnode 59 (T66 P) (T67 P)
theorem T68_ok : Tab (env Go.Proofs.Tryz.prog) (T68 Go.Proofs.Tryz.prog) := tab_node T66_ok T67_ok
def T69 (P : Program) : Nat → FFn := tnode 56 (T65 P) (T68 P)
theorem T69_ok : Tab (env Go.Proofs.Tryz.prog) (T69 Go.Proofs.Tryz.prog) := tab_node T65_ok T68_ok
def T70 (P : Program) : Nat → FFn := tleaf 60 q60
theorem T70_ok : Tab (env Go.Proofs.Tryz.prog) (T70 Go.Proofs.Tryz.prog) := tab_leaf l60
def T71 (P : Program) : Nat → FFn := tleaf 61 q61
theorem T71_ok : Tab (env Go.Proofs.Tryz.prog) (T71 Go.Proofs.Tryz.prog) := tab_leaf l61
def T72 (P : Program) : Nat → FFn := tnode 61 (T70 P) (T71 P)
theorem T72_ok : Tab (env Go.Proofs.Tryz.prog) (T72 Go.Proofs.Tryz.prog) := tab_node T70_ok T71_ok
def T73 (P : Program) : Nat → FFn := tleaf 62 (q62 P)
theorem T73_ok : Tab (env Go.Proofs.Tryz.prog) (T73 Go.Proofs.Tryz.prog) := tab_leaf l62
def T74 (P : Program) : Nat → FFn := tleaf 63 q63
theorem T74_ok : Tab (env Go.Proofs.Tryz.prog) (T74 Go.Proofs.Tryz.prog) := tab_leaf l63
def T75 (P : Program) : Nat → FFn := tnode 63 (T73 P) (T74 P)
theorem T75_ok : Tab (env Go.Proofs.Tryz.prog) (T75 Go.Proofs.Tryz.prog) := tab_node T73_ok T74_ok
def T76 (P : Program) : Nat → FFn := tnode 62 (T72 P) (T75 P)
theorem T76_ok : Tab (env Go.Proofs.Tryz.prog) (T76 Go.Proofs.Tryz.prog) := tab_node T72_ok T75_ok
def T77 (P : Program) : Nat → FFn := tnode 60 (T69 P) (T76 P)
theorem T77_ok : Tab (env Go.Proofs.Tryz.prog) (T77 Go.Proofs.Tryz.prog) := tab_node T69_ok T76_ok
def T78 (P : Program) : Nat → FFn := tleaf 65 q65
theorem T78_ok : Tab (env Go.Proofs.Tryz.prog) (T78 Go.Proofs.Tryz.prog) := tab_leaf l65
def T79 (P : Program) : Nat → FFn := tleaf 66 q66
theorem T79_ok : Tab (env Go.Proofs.Tryz.prog) (T79 Go.Proofs.Tryz.prog) := tab_leaf l66
def T80 (P : Program) : Nat → FFn := tnode 66 (T78 P) (T79 P)
theorem T80_ok : Tab (env Go.Proofs.Tryz.prog) (T80 Go.Proofs.Tryz.prog) := tab_node T78_ok T79_ok
def T81 (P : Program) : Nat → FFn := tleaf 67 q67
theorem T81_ok : Tab (env Go.Proofs.Tryz.prog) (T81 Go.Proofs.Tryz.prog) := tab_leaf l67
def T82 (P : Program) : Nat → FFn := tleaf 68 q68
theorem T82_ok : Tab (env Go.Proofs.Tryz.prog) (T82 Go.Proofs.Tryz.prog) := tab_leaf l68
def T83 (P : Program) : Nat → FFn := tnode 68 (T81 P) (T82 P)
theorem T83_ok : Tab (env Go.Proofs.Tryz.prog) (T83 Go.Proofs.Tryz.prog) := tab_node T81_ok T82_ok
def T84 (P : Program) : Nat → FFn := tnode 67 (T80 P) (T83 P)
theorem T84_ok : Tab (env Go.Proofs.Tryz.prog) (T84 Go.Proofs.Tryz.prog) := tab_node T80_ok T83_ok
def T85 (P : Program) : Nat → FFn := tleaf 69 q69
theorem T85_ok : Tab (env Go.Proofs.Tryz.prog) (T85 Go.Proofs.Tryz.prog) := tab_leaf l69
def T86 (P : Program) : Nat → FFn := tleaf 71 q71
theorem T86_ok : Tab (env Go.Proofs.Tryz.prog) (T86 Go.Proofs.Tryz.prog) := tab_leaf l71
def T87 (P : Program) : Nat → FFn := tnode 71 (T85 P) (T86 P)
theorem T87_ok : Tab (env Go.Proofs.Tryz.prog) (T87 Go.Proofs.Tryz.prog) := tab_node T85_ok T86_ok
def T88 (P : Program) : Nat → FFn := tleaf 72 q72
theorem T88_ok : Tab (env Go.Proofs.Tryz.prog) (T88 Go.Proofs.Tryz.prog) := tab_leaf l72
def T89 (P : Program) : Nat → FFn := tleaf 73 q73
theorem T89_ok : Tab (env Go.Proofs.Tryz.prog) (T89 Go.Proofs.Tryz.prog) := tab_leaf l73
def T90 (P : Program) : Nat → FFn := tnode 73 (T88 P) (T89 P)
theorem T90_ok : Tab (env Go.Proofs.Tryz.prog) (T90 Go.Proofs.Tryz.prog) := tab_node T88_ok T89_ok
def T91 (P : Program) : Nat → FFn := tnode 72 (T87 P) (T90 P)
theorem T91_ok : Tab (env Go.Proofs.Tryz.prog) (T91 Go.Proofs.Tryz.prog) := tab_node T87_ok T90_ok
def T92 (P : Program) : Nat → FFn := tnode 69 (T84 P) (T91 P)
theorem T92_ok : Tab (env Go.Proofs.Tryz.prog) (T92 Go.Proofs.Tryz.prog) := tab_node T84_ok T91_ok
def T93 (P : Program) : Nat → FFn := tnode 65 (T77 P) (T92 P)
theorem T93_ok : Tab (env Go.Proofs.Tryz.prog) (T93 Go.Proofs.Tryz.prog) := tab_node T77_ok T92_ok
def T94 (P : Program) : Nat → FFn := tleaf 74 q74
theorem T94_ok : Tab (env Go.Proofs.Tryz.prog) (T94 Go.Proofs.Tryz.prog) := tab_leaf l74
def T95 (P : Program) : Nat → FFn := tleaf 76 q76
theorem T95_ok : Tab (env Go.Proofs.Tryz.prog) (T95 Go.Proofs.Tryz.prog) := tab_leaf l76
def T96 (P : Program) : Nat → FFn := tnode 76 (T94 P) (T95 P)
theorem T96_ok : Tab (env Go.Proofs.Tryz.prog) (T96 Go.Proofs.Tryz.prog) := tab_node T94_ok T95_ok
def T97 (P : Program) : Nat → FFn := tleaf 77 q77
theorem T97_ok : Tab (env Go.Proofs.Tryz.prog) (T97 Go.Proofs.Tryz.prog) := tab_leaf l77
def T98 (P : Program) : Nat → FFn := tleaf 79 q79
theorem T98_ok : Tab (env Go.Proofs.Tryz.prog) (T98 Go.Proofs.Tryz.prog) := tab_leaf l79
def T99 (P : Program) : Nat → FFn := tnode 79 (T97 P) (T98 P)
theorem T99_ok : Tab (env Go.Proofs.Tryz.prog) (T99 Go.Proofs.Tryz.prog) := tab_node T97_ok T98_ok
def T100 (P : Program) : Nat → FFn := tnode 77 (T96 P) (T99 P)
theorem T100_ok : Tab (env Go.Proofs.Tryz.prog) (T100 Go.Proofs.Tryz.prog) := tab_node T96_ok T99_ok
def T101 (P : Program) : Nat → FFn := tleaf 80 q80
theorem T101_ok : Tab (env Go.Proofs.Tryz.prog) (T101 Go.Proofs.Tryz.prog) := tab_leaf l80
def T102 (P : Program) : Nat → FFn := tleaf 81 q81
theorem T102_ok : Tab (env Go.Proofs.Tryz.prog) (T102 Go.Proofs.Tryz.prog) := tab_leaf l81
def T103 (P : Program) : Nat → FFn := tnode 81 (T101 P) (T102 P)
theorem T103_ok : Tab (env Go.Proofs.Tryz.prog) (T103 Go.Proofs.Tryz.prog) := tab_node T101_ok T102_ok
def T104 (P : Program) : Nat → FFn := tleaf 83 q83
theorem T104_ok : Tab (env Go.Proofs.Tryz.prog) (T104 Go.Proofs.Tryz.prog) := tab_leaf l83
def T105 (P : Program) : Nat → FFn := tleaf 84 q84
theorem T105_ok : Tab (env Go.Proofs.Tryz.prog) (T105 Go.Proofs.Tryz.prog) := tab_leaf l84
def T106 (P : Program) : Nat → FFn := tnode 84 (T104 P) (T105 P)
theorem T106_ok : Tab (env Go.Proofs.Tryz.prog) (T106 Go.Proofs.Tryz.prog) := tab_node T104_ok T105_ok
def T107 (P : Program) : Nat → FFn := tnode 83 (T103 P) (T106 P)
theorem T107_ok : Tab (env Go.Proofs.Tryz.prog) (T107 Go.Proofs.Tryz.prog) := tab_node T103_ok T106_ok
def T108 (P : Program) : Nat → FFn := tnode 80 (T100 P) (T107 P)
theorem T108_ok : Tab (env Go.Proofs.Tryz.prog) (T108 Go.Proofs.Tryz.prog) := tab_node T100_ok T107_ok
def T109 (P : Program) : Nat → FFn := tleaf 87 q87
theorem T109_ok : Tab (env Go.Proofs.Tryz.prog) (T109 Go.Proofs.Tryz.prog) := tab_leaf l87
def T110 (P : Program) : Nat → FFn := tleaf 88 q88
theorem T110_ok : Tab (env Go.Proofs.Tryz.prog) (T110 Go.Proofs.Tryz.prog) := tab_leaf l88
def T111 (P : Program) : Nat → FFn := tnode 88 (T109 P) (T110 P)
theorem T111_ok : Tab (env Go.Proofs.Tryz.prog) (T111 Go.Proofs.Tryz.prog) := tab_node T109_ok T110_ok
def T112 (P : Program) : Nat → FFn := tleaf 90 q90
theorem T112_ok : Tab (env Go.Proofs.Tryz.prog) (T112 Go.Proofs.Tryz.prog) := tab_leaf l90
def T113 (P : Program) : Nat → FFn := tleaf 91 q91
theorem T113_ok : Tab (env Go.Proofs.Tryz.prog) (T113 Go.Proofs.Tryz.prog) := tab_leaf l91
def T114 (P : Program) : Nat → FFn := tnode 91 (T112 P) (T113 P)
theorem T114_ok : Tab (env Go.Proofs.Tryz.prog) (T114 Go.Proofs.Tryz.prog) := tab_node T112_ok T113_ok
def T115 (P : Program) : Nat → FFn := tnode 90 (T111 P) (T114 P)
theorem T115_ok : Tab (env Go.Proofs.Tryz.prog) (T115 Go.Proofs.Tryz.prog) := tab_node T111_ok T114_ok
def T116 (P : Program) : Nat → FFn := tleaf 93 q93
theorem T116_ok : Tab (env Go.Proofs.Tryz.prog) (T116 Go.Proofs.Tryz.prog) := tab_leaf l93
def T117 (P : Program) : Nat → FFn := tleaf 94 q94
theorem T117_ok : Tab (env Go.Proofs.Tryz.prog) (T117 Go.Proofs.Tryz.prog) := tab_leaf l94
def T118 (P : Program) : Nat → FFn := tnode 94 (T116 P) (T117 P)
theorem T118_ok : Tab (env Go.Proofs.Tryz.prog) (T118 Go.Proofs.Tryz.prog) := tab_node T116_ok T117_ok
def T119 (P : Program) : Nat → FFn := tleaf 95 q95
theorem T119_ok : Tab (env Go.Proofs.Tryz.prog) (T119 Go.Proofs.Tryz.prog) := tab_leaf l95
def T120 (P : Program) : Nat → FFn := tleaf 96 q96
theorem T120_ok : Tab (env Go.Proofs.Tryz.prog) (T120 Go.Proofs.Tryz.prog) := tab_leaf l96
def T121 (P : Program) : Nat → FFn := tleaf 97 q97
theorem T121_ok : Tab (env Go.Proofs.Tryz.prog) (T121 Go.Proofs.Tryz.prog) := tab_leaf l97
def T122 (P : Program) : Nat → FFn := tnode 97 (T120 P) (T121 P)
theorem T122_ok : Tab (env Go.Proofs.Tryz.prog) (T122 Go.Proofs.Tryz.prog) := tab_node T120_ok T121_ok
def T123 (P : Program) : Nat → FFn := tnode 96 (T119 P) (T122 P)
theorem T123_ok : Tab (env Go.Proofs.Tryz.prog) (T123 Go.Proofs.Tryz.prog) := tab_node T119_ok T122_ok
def T124 (P : Program) : Nat → FFn := tnode 95 (T118 P) (T123 P)
theorem T124_ok : Tab (env Go.Proofs.Tryz.prog) (T124 Go.Proofs.Tryz.prog) := tab_node T118_ok T123_ok
def T125 (P : Program) : Nat → FFn := tnode 93 (T115 P) (T124 P)
theorem T125_ok : Tab (env Go.Proofs.Tryz.prog) (T125 Go.Proofs.Tryz.prog) := tab_node T115_ok T124_ok
def T126 (P : Program) : Nat → FFn := tnode 87 (T108 P) (T125 P)
theorem T126_ok : Tab (env Go.Proofs.Tryz.prog) (T126 Go.Proofs.Tryz.prog) := tab_node T108_ok T125_ok
def T127 (P : Program) : Nat → FFn := tnode 74 (T93 P) (T126 P)
theorem T127_ok : Tab (env Go.Proofs.Tryz.prog) (T127 Go.Proofs.Tryz.prog) := tab_node T93_ok T126_ok
def T128 (P : Program) : Nat → FFn := tnode 54 (T62 P) (T127 P)
theorem T128_ok : Tab (env Go.Proofs.Tryz.prog) (T128 Go.Proofs.Tryz.prog) := tab_node T62_ok T127_ok
def T129 (P : Program) : Nat → FFn := tleaf 98 q98
theorem T129_ok : Tab (env Go.Proofs.Tryz.prog) (T129 Go.Proofs.Tryz.prog) := tab_leaf l98
def T130 (P : Program) : Nat → FFn := tleaf 100 q100
theorem T130_ok : Tab (env Go.Proofs.Tryz.prog) (T130 Go.Proofs.Tryz.prog) := tab_leaf l100
def T131 (P : Program) : Nat → FFn := tnode 100 (T129 P) (T130 P)
theorem T131_ok : Tab (env Go.Proofs.Tryz.prog) (T131 Go.Proofs.Tryz.prog) := tab_node T129_ok T130_ok
def T132 (P : Program) : Nat → FFn := tleaf 101 q101
theorem T132_ok : Tab (env Go.Proofs.Tryz.prog) (T132 Go.Proofs.Tryz.prog) := tab_leaf l101
def T133 (P : Program) : Nat → FFn := tleaf 102 q102
theorem T133_ok : Tab (env Go.Proofs.Tryz.prog) (T133 Go.Proofs.Tryz.prog) := tab_leaf l102
def T134 (P : Program) : Nat → FFn := tnode 102 (T132 P) (T133 P)
theorem T134_ok : Tab (env Go.Proofs.Tryz.prog) (T134 Go.Proofs.Tryz.prog) := tab_node T132_ok T133_ok
def T135 (P : Program) : Nat → FFn := tnode 101 (T131 P) (T134 P)
theorem T135_ok : Tab (env Go.Proofs.Tryz.prog) (T135 Go.Proofs.Tryz.prog) := tab_node T131_ok T134_ok
def T136 (P : Program) : Nat → FFn := tleaf 103 q103
theorem T136_ok : Tab (env Go.Proofs.Tryz.prog) (T136 Go.Proofs.Tryz.prog) := tab_leaf l103
def T137 (P : Program) : Nat → FFn := tleaf 104 (q104 P)
theorem T137_ok : Tab (env Go.Proofs.Tryz.prog) (T137 Go.Proofs.Tryz.prog) := tab_leaf l104
def T138 (P : Program) : Nat → FFn := tnode 104 (T136 P) (T137 P)
theorem T138_ok : Tab (env Go.Proofs.Tryz.prog) (T138 Go.Proofs.Tryz.prog) := tab_node T136_ok T137_ok
def T139 (P : Program) : Nat → FFn := tleaf 105 q105
theorem T139_ok : Tab (env Go.Proofs.Tryz.prog) (T139 Go.Proofs.Tryz.prog) := tab_leaf l105
def T140 (P : Program) : Nat → FFn := tleaf 106 q106
theorem T140_ok : Tab (env Go.Proofs.Tryz.prog) (T140 Go.Proofs.Tryz.prog) := tab_leaf l106
def T141 (P : Program) : Nat → FFn := tnode 106 (T139 P) (T140 P)
theorem T141_ok : Tab (env Go.Proofs.Tryz.prog) (T141 Go.Proofs.Tryz.prog) := tab_node T139_ok T140_ok
def T142 (P : Program) : Nat → FFn := tnode 105 (T138 P) (T141 P)
theorem T142_ok : Tab (env Go.Proofs.Tryz.prog) (T142 Go.Proofs.Tryz.prog) := tab_node T138_ok T141_ok
def T143 (P : Program) : Nat → FFn := tnode 103 (T135 P) (T142 P)
theorem T143_ok : Tab (env Go.Proofs.Tryz.prog) (T143 Go.Proofs.Tryz.prog) := tab_node T135_ok T142_ok
def T144 (P : Program) : Nat → FFn := tleaf 107 q107
theorem T144_ok : Tab (env Go.Proofs.Tryz.prog) (T144 Go.Proofs.Tryz.prog) := tab_leaf l107
def T145 (P : Program) : Nat → FFn := tleaf 108 q108
theorem T145_ok : Tab (env Go.Proofs.Tryz.prog) (T145 Go.Proofs.Tryz.prog) := tab_leaf l108
def T146 (P : Program) : Nat → FFn := tnode 108 (T144 P) (T145 P)
theorem T146_ok : Tab (env Go.Proofs.Tryz.prog) (T146 Go.Proofs.Tryz.prog) := tab_node T144_ok T145_ok
def T147 (P : Program) : Nat → FFn := tleaf 109 q109
theorem T147_ok : Tab (env Go.Proofs.Tryz.prog) (T147 Go.Proofs.Tryz.prog) := tab_leaf l109
def T148 (P : Program) : Nat → FFn := tleaf 110 q110
theorem T148_ok : Tab (env Go.Proofs.Tryz.prog) (T148 Go.Proofs.Tryz.prog) := tab_leaf l110
def T149 (P : Program) : Nat → FFn := tnode 110 (T147 P) (T148 P)
theorem T149_ok : Tab (env Go.Proofs.Tryz.prog) (T149 Go.Proofs.Tryz.prog) := tab_node T147_ok T148_ok
def T150 (P : Program) : Nat → FFn := tnode 109 (T146 P) (T149 P)
theorem T150_ok : Tab (env Go.Proofs.Tryz.prog) (T150 Go.Proofs.Tryz.prog) := tab_node T146_ok T149_ok
def T151 (P : Program) : Nat → FFn := tleaf 111 q111
theorem T151_ok : Tab (env Go.Proofs.Tryz.prog) (T151 Go.Proofs.Tryz.prog) := tab_leaf l111
def T152 (P : Program) : Nat → FFn := tleaf 112 q112
theorem T152_ok : Tab (env Go.Proofs.Tryz.prog) (T152 Go.Proofs.Tryz.prog) := tab_leaf l112
def T153 (P : Program) : Nat → FFn := tnode 112 (T151 P) (T152 P)
theorem T153_ok : Tab (env Go.Proofs.Tryz.prog) (T153 Go.Proofs.Tryz.prog) := tab_node T151_ok T152_ok
def T154 (P : Program) : Nat → FFn := tleaf 115 q115
theorem T154_ok : Tab (env Go.Proofs.Tryz.prog) (T154 Go.Proofs.Tryz.prog) := tab_leaf l115
def T155 (P : Program) : Nat → FFn := tleaf 116 q116
theorem T155_ok : Tab (env Go.Proofs.Tryz.prog) (T155 Go.Proofs.Tryz.prog) := tab_leaf l116
def T156 (P : Program) : Nat → FFn := tnode 116 (T154 P) (T155 P)
theorem T156_ok : Tab (env Go.Proofs.Tryz.prog) (T156 Go.Proofs.Tryz.prog) := tab_node T154_ok T155_ok
def T157 (P : Program) : Nat → FFn := tnode 115 (T153 P) (T156 P)
theorem T157_ok : Tab (env Go.Proofs.Tryz.prog) (T157 Go.Proofs.Tryz.prog) := tab_node T153_ok T156_ok
def T158 (P : Program) : Nat → FFn := tnode 111 (T150 P) (T157 P)
theorem T158_ok : Tab (env Go.Proofs.Tryz.prog) (T158 Go.Proofs.Tryz.prog) := tab_node T150_ok T157_ok
def T159 (P : Program) : Nat → FFn := tnode 107 (T143 P) (T158 P)
theorem T159_ok : Tab (env Go.Proofs.Tryz.prog) (T159 Go.Proofs.Tryz.prog) := tab_node T143_ok T158_ok
def T160 (P : Program) : Nat → FFn := tleaf 117 q117
theorem T160_ok : Tab (env Go.Proofs.Tryz.prog) (T160 Go.Proofs.Tryz.prog) := tab_leaf l117
def T161 (P : Program) : Nat → FFn := tleaf 118 q118
theorem T161_ok : Tab (env Go.Proofs.Tryz.prog) (T161 Go.Proofs.Tryz.prog) := tab_leaf l118
def T162 (P : Program) : Nat → FFn := tnode 118 (T160 P) (T161 P)
theorem T162_ok : Tab (env Go.Proofs.Tryz.prog) (T162 Go.Proofs.Tryz.prog) := tab_node T160_ok T161_ok
def T163 (P : Program) : Nat → FFn := tleaf 119 q119
theorem T163_ok : Tab (env Go.Proofs.Tryz.prog) (T163 Go.Proofs.Tryz.prog) := tab_leaf l119
def T164 (P : Program) : Nat → FFn := tleaf 120 q120
theorem T164_ok : Tab (env Go.Proofs.Tryz.prog) (T164 Go.Proofs.Tryz.prog) := tab_leaf l120
def T165 (P : Program) : Nat → FFn := tnode 120 (T163 P) (T164 P)
theorem T165_ok : Tab (env Go.Proofs.Tryz.prog) (T165 Go.Proofs.Tryz.prog) := tab_node T163_ok T164_ok
def T166 (P : Program) : Nat → FFn := tnode 119 (T162 P) (T165 P)
theorem T166_ok : Tab (env Go.Proofs.Tryz.prog) (T166 Go.Proofs.Tryz.prog) := tab_node T162_ok T165_ok
def T167 (P : Program) : Nat → FFn := tleaf 121 q121
theorem T167_ok : Tab (env Go.Proofs.Tryz.prog) (T167 Go.Proofs.Tryz.prog) := tab_leaf l121
def T168 (P : Program) : Nat → FFn := tleaf 122 q122
theorem T168_ok : Tab (env Go.Proofs.Tryz.prog) (T168 Go.Proofs.Tryz.prog) := tab_leaf l122
def T169 (P : Program) : Nat → FFn := tnode 122 (T167 P) (T168 P)
theorem T169_ok : Tab (env Go.Proofs.Tryz.prog) (T169 Go.Proofs.Tryz.prog) := tab_node T167_ok T168_ok
def T170 (P : Program) : Nat → FFn := tleaf 123 q123
theorem T170_ok : Tab (env Go.Proofs.Tryz.prog) (T170 Go.Proofs.Tryz.prog) := tab_leaf l123
def T171 (P : Program) : Nat → FFn := tleaf 125 q125
theorem T171_ok : Tab (env Go.Proofs.Tryz.prog) (T171 Go.Proofs.Tryz.prog) := tab_leaf l125
def T172 (P : Program) : Nat → FFn := tnode 125 (T170 P) (T171 P)
theorem T172_ok : Tab (env Go.Proofs.Tryz.prog) (T172 Go.Proofs.Tryz.prog) := tab_node T170_ok T171_ok
def T173 (P : Program) : Nat → FFn := tnode 123 (T169 P) (T172 P)
theorem T173_ok : Tab (env Go.Proofs.Tryz.prog) (T173 Go.Proofs.Tryz.prog) := tab_node T169_ok T172_ok
def T174 (P : Program) : Nat → FFn := tnode 121 (T166 P) (T173 P)
theorem T174_ok : Tab (env Go.Proofs.Tryz.prog) (T174 Go.Proofs.Tryz.prog) := tab_node T166_ok T173_ok
def T175 (P : Program) : Nat → FFn := tleaf 132 q132
theorem T175_ok : Tab (env Go.Proofs.Tryz.prog) (T175 Go.Proofs.Tryz.prog) := tab_leaf l132
def T176 (P : Program) : Nat → FFn := tleaf 140 q140
theorem T176_ok : Tab (env Go.Proofs.Tryz.prog) (T176 Go.Proofs.Tryz.prog) := tab_leaf l140
def T177 (P : Program) : Nat → FFn := tnode 140 (T175 P) (T176 P)
theorem T177_ok : Tab (env Go.Proofs.Tryz.prog) (T177 Go.Proofs.Tryz.prog) := tab_node T175_ok T176_ok
def T178 (P : Program) : Nat → FFn := tleaf 141 q141
theorem T178_ok : Tab (env Go.Proofs.Tryz.prog) (T178 Go.Proofs.Tryz.prog) := tab_leaf l141
def T179 (P : Program) : Nat → FFn := tleaf 142 q142
theorem T179_ok : Tab (env Go.Proofs.Tryz.prog) (T179 Go.Proofs.Tryz.prog) := tab_leaf l142
def T180 (P : Program) : Nat → FFn := tnode 142 (T178 P) (T179 P)
theorem T180_ok : Tab (env Go.Proofs.Tryz.prog) (T180 Go.Proofs.Tryz.prog) := tab_node T178_ok T179_ok
def T181 (P : Program) : Nat → FFn := tnode 141 (T177 P) (T180 P)
theorem T181_ok : Tab (env Go.Proofs.Tryz.prog) (T181 Go.Proofs.Tryz.prog) := tab_node T177_ok T180_ok
def T182 (P : Program) : Nat → FFn := tleaf 143 q143
theorem T182_ok : Tab (env Go.Proofs.Tryz.prog) (T182 Go.Proofs.Tryz.prog) := tab_leaf l143
def T183 (P : Program) : Nat → FFn := tleaf 144 (q144 P)
theorem T183_ok : Tab (env Go.Proofs.Tryz.prog) (T183 Go.Proofs.Tryz.prog) := tab_leaf l144
def T184 (P : Program) : Nat → FFn := tnode 144 (T182 P) (T183 P)
theorem T184_ok : Tab (env Go.Proofs.Tryz.prog) (T184 Go.Proofs.Tryz.prog) := tab_node T182_ok T183_ok
def T185 (P : Program) : Nat → FFn := tleaf 145 q145
theorem T185_ok : Tab (env Go.Proofs.Tryz.prog) (T185 Go.Proofs.Tryz.prog) := tab_leaf l145
def T186 (P : Program) : Nat → FFn := tleaf 147 q147
theorem T186_ok : Tab (env Go.Proofs.Tryz.prog) (T186 Go.Proofs.Tryz.prog) := tab_leaf l147
def T187 (P : Program) : Nat → FFn := tleaf 148 q148
theorem T187_ok : Tab (env Go.Proofs.Tryz.prog) (T187 Go.Proofs.Tryz.prog) := tab_leaf l148
def T188 (P : Program) : Nat → FFn := tnode 148 (T186 P) (T187 P)
theorem T188_ok : Tab (env Go.Proofs.Tryz.prog) (T188 Go.Proofs.Tryz.prog) := tab_node T186_ok T187_ok
def T189 (P : Program) : Nat → FFn := tnode 147 (T185 P) (T188 P)
theorem T189_ok : Tab (env Go.Proofs.Tryz.prog) (T189 Go.Proofs.Tryz.prog) := tab_node T185_ok T188_ok
def T190 (P : Program) : Nat → FFn := tnode 145 (T184 P) (T189 P)
theorem T190_ok : Tab (env Go.Proofs.Tryz.prog) (T190 Go.Proofs.Tryz.prog) := tab_node T184_ok T189_ok
def T191 (P : Program) : Nat → FFn := tnode 143 (T181 P) (T190 P)
theorem T191_ok : Tab (env Go.Proofs.Tryz.prog) (T191 Go.Proofs.Tryz.prog) := tab_node T181_ok T190_ok
def T192 (P : Program) : Nat → FFn := tnode 132 (T174 P) (T191 P)
theorem T192_ok : Tab (env Go.Proofs.Tryz.prog) (T192 Go.Proofs.Tryz.prog) := tab_node T174_ok T191_ok
def T193 (P : Program) : Nat → FFn := tnode 117 (T159 P) (T192 P)
theorem T193_ok : Tab (env Go.Proofs.Tryz.prog) (T193 Go.Proofs.Tryz.prog) := tab_node T159_ok T192_ok
def T194 (P : Program) : Nat → FFn := tleaf 149 q149
theorem T194_ok : Tab (env Go.Proofs.Tryz.prog) (T194 Go.Proofs.Tryz.prog) := tab_leaf l149
def T195 (P : Program) : Nat → FFn := tleaf 150 q150
theorem T195_ok : Tab (env Go.Proofs.Tryz.prog) (T195 Go.Proofs.Tryz.prog) := tab_leaf l150
def T196 (P : Program) : Nat → FFn := tnode 150 (T194 P) (T195 P)
theorem T196_ok : Tab (env Go.Proofs.Tryz.prog) (T196 Go.Proofs.Tryz.prog) := tab_node T194_ok T195_ok
def T197 (P : Program) : Nat → FFn := tleaf 151 q151
theorem T197_ok : Tab (env Go.Proofs.Tryz.prog) (T197 Go.Proofs.Tryz.prog) := tab_leaf l151
def T198 (P : Program) : Nat → FFn := tleaf 152 q152
theorem T198_ok : Tab (env Go.Proofs.Tryz.prog) (T198 Go.Proofs.Tryz.prog) := tab_leaf l152
def T199 (P : Program) : Nat → FFn := tnode 152 (T197 P) (T198 P)
theorem T199_ok : Tab (env Go.Proofs.Tryz.prog) (T199 Go.Proofs.Tryz.prog) := tab_node T197_ok T198_ok
def T200 (P : Program) : Nat → FFn := tnode 151 (T196 P) (T199 P)
theorem T200_ok : Tab (env Go.Proofs.Tryz.prog) (T200 Go.Proofs.Tryz.prog) := tab_node T196_ok T199_ok
def T201 (P : Program) : Nat → FFn := tleaf 156 q156
theorem T201_ok : Tab (env Go.Proofs.Tryz.prog) (T201 Go.Proofs.Tryz.prog) := tab_leaf l156
def T202 (P : Program) : Nat → FFn := tleaf 159 q159
theorem T202_ok : Tab (env Go.Proofs.Tryz.prog) (T202 Go.Proofs.Tryz.prog) := tab_leaf l159
def T203 (P : Program) : Nat → FFn := tnode 159 (T201 P) (T202 P)
theorem T203_ok : Tab (env Go.Proofs.Tryz.prog) (T203 Go.Proofs.Tryz.prog) := tab_node T201_ok T202_ok
def T204 (P : Program) : Nat → FFn := tleaf 169 q169
theorem T204_ok : Tab (env Go.Proofs.Tryz.prog) (T204 Go.Proofs.Tryz.prog) := tab_leaf l169
def T205 (P : Program) : Nat → FFn := tleaf 175 q175
theorem T205_ok : Tab (env Go.Proofs.Tryz.prog) (T205 Go.Proofs.Tryz.prog) := tab_leaf l175
def T206 (P : Program) : Nat → FFn := tnode 175 (T204 P) (T205 P)
theorem T206_ok : Tab (env Go.Proofs.Tryz.prog) (T206 Go.Proofs.Tryz.prog) := tab_node T204_ok T205_ok
def T207 (P : Program) : Nat → FFn := tnode 169 (T203 P) (T206 P)
theorem T207_ok : Tab (env Go.Proofs.Tryz.prog) (T207 Go.Proofs.Tryz.prog) := tab_node T203_ok T206_ok
def T208 (P : Program) : Nat → FFn := tnode 156 (T200 P) (T207 P)
theorem T208_ok : Tab (env Go.Proofs.Tryz.prog) (T208 Go.Proofs.Tryz.prog) := tab_node T200_ok T207_ok
def T209 (P : Program) : Nat → FFn := tleaf 176 q176
theorem T209_ok : Tab (env Go.Proofs.Tryz.prog) (T209 Go.Proofs.Tryz.prog) := tab_leaf l176
def T210 (P : Program) : Nat → FFn := tleaf 177 q177
theorem T210_ok : Tab (env Go.Proofs.Tryz.prog) (T210 Go.Proofs.Tryz.prog) := tab_leaf l177
def T211 (P : Program) : Nat → FFn := tnode 177 (T209 P) (T210 P)
theorem T211_ok : Tab (env Go.Proofs.Tryz.prog) (T211 Go.Proofs.Tryz.prog) := tab_node T209_ok T210_ok
def T212 (P : Program) : Nat → FFn := tleaf 178 q178
theorem T212_ok : Tab (env Go.Proofs.Tryz.prog) (T212 Go.Proofs.Tryz.prog) := tab_leaf l178
def T213 (P : Program) : Nat → FFn := tleaf 185 q185
theorem T213_ok : Tab (env Go.Proofs.Tryz.prog) (T213 Go.Proofs.Tryz.prog) := tab_leaf l185
def T214 (P : Program) : Nat → FFn := tnode 185 (T212 P) (T213 P)
theorem T214_ok : Tab (env Go.Proofs.Tryz.prog) (T214 Go.Proofs.Tryz.prog) := tab_node T212_ok T213_ok
def T215 (P : Program) : Nat → FFn := tnode 178 (T211 P) (T214 P)
theorem T215_ok : Tab (env Go.Proofs.Tryz.prog) (T215 Go.Proofs.Tryz.prog) := tab_node T211_ok T214_ok
def T216 (P : Program) : Nat → FFn := tleaf 186 q186
theorem T216_ok : Tab (env Go.Proofs.Tryz.prog) (T216 Go.Proofs.Tryz.prog) := tab_leaf l186
def T217 (P : Program) : Nat → FFn := tleaf 196 q196
theorem T217_ok : Tab (env Go.Proofs.Tryz.prog) (T217 Go.Proofs.Tryz.prog) := tab_leaf l196
def T218 (P : Program) : Nat → FFn := tnode 196 (T216 P) (T217 P)
theorem T218_ok : Tab (env Go.Proofs.Tryz.prog) (T218 Go.Proofs.Tryz.prog) := tab_node T216_ok T217_ok
def T219 (P : Program) : Nat → FFn := tleaf 199 q199
theorem T219_ok : Tab (env Go.Proofs.Tryz.prog) (T219 Go.Proofs.Tryz.prog) := tab_leaf l199
def T220 (P : Program) : Nat → FFn := tleaf 204 q204
theorem T220_ok : Tab (env Go.Proofs.Tryz.prog) (T220 Go.Proofs.Tryz.prog) := tab_leaf l204
def T221 (P : Program) : Nat → FFn := tnode 204 (T219 P) (T220 P)
theorem T221_ok : Tab (env Go.Proofs.Tryz.prog) (T221 Go.Proofs.Tryz.prog) := tab_node T219_ok T220_ok
def T222 (P : Program) : Nat → FFn := tnode 199 (T218 P) (T221 P)
theorem T222_ok : Tab (env Go.Proofs.Tryz.prog) (T222 Go.Proofs.Tryz.prog) := tab_node T218_ok T221_ok
def T223 (P : Program) : Nat → FFn := tnode 186 (T215 P) (T222 P)
theorem T223_ok : Tab (env Go.Proofs.Tryz.prog) (T223 Go.Proofs.Tryz.prog) := tab_node T215_ok T222_ok
def T224 (P : Program) : Nat → FFn := tnode 176 (T208 P) (T223 P)
theorem T224_ok : Tab (env Go.Proofs.Tryz.prog) (T224 Go.Proofs.Tryz.prog) := tab_node T208_ok T223_ok
def T225 (P : Program) : Nat → FFn := tleaf 205 q205
theorem T225_ok : Tab (env Go.Proofs.Tryz.prog) (T225 Go.Proofs.Tryz.prog) := tab_leaf l205
def T226 (P : Program) : Nat → FFn := tleaf 206 (q206 P)
theorem T226_ok : Tab (env Go.Proofs.Tryz.prog) (T226 Go.Proofs.Tryz.prog) := tab_leaf l206
def T227 (P : Program) : Nat → FFn := tnode 206 (T225 P) (T226 P)
theorem T227_ok : Tab (env Go.Proofs.Tryz.prog) (T227 Go.Proofs.Tryz.prog) := tab_node T225_ok T226_ok
def T228 (P : Program) : Nat → FFn := tleaf 208 q208
theorem T228_ok : Tab (env Go.Proofs.Tryz.prog) (T228 Go.Proofs.Tryz.prog) := tab_leaf l208
def T229 (P : Program) : Nat → FFn := tleaf 213 q213
theorem T229_ok : Tab (env Go.Proofs.Tryz.prog) (T229 Go.Proofs.Tryz.prog) := tab_leaf l213
def T230 (P : Program) : Nat → FFn := tnode 213 (T228 P) (T229 P)
theorem T230_ok : Tab (env Go.Proofs.Tryz.prog) (T230 Go.Proofs.Tryz.prog) := tab_node T228_ok T229_ok
def T231 (P : Program) : Nat → FFn := tnode 208 (T227 P) (T230 P)
theorem T231_ok : Tab (env Go.Proofs.Tryz.prog) (T231 Go.Proofs.Tryz.prog) := tab_node T227_ok T230_ok
def T232 (P : Program) : Nat → FFn := tleaf 214 q214
theorem T232_ok : Tab (env Go.Proofs.Tryz.prog) (T232 Go.Proofs.Tryz.prog) := tab_leaf l214
def T233 (P : Program) : Nat → FFn := tleaf 216 q216
theorem T233_ok : Tab (env Go.Proofs.Tryz.prog) (T233 Go.Proofs.Tryz.prog) := tab_leaf l216
def T234 (P : Program) : Nat → FFn := tnode 216 (T232 P) (T233 P)
theorem T234_ok : Tab (env Go.Proofs.Tryz.prog) (T234 Go.Proofs.Tryz.prog) := tab_node T232_ok T233_ok
def T235 (P : Program) : Nat → FFn := tleaf 217 q217
theorem T235_ok : Tab (env Go.Proofs.Tryz.prog) (T235 Go.Proofs.Tryz.prog) := tab_leaf l217
def T236 (P : Program) : Nat → FFn := tleaf 218 q218
theorem T236_ok : Tab (env Go.Proofs.Tryz.prog) (T236 Go.Proofs.Tryz.prog) := tab_leaf l218
def T237 (P : Program) : Nat → FFn := tnode 218 (T235 P) (T236 P)
theorem T237_ok : Tab (env Go.Proofs.Tryz.prog) (T237 Go.Proofs.Tryz.prog) := tab_node T235_ok T236_ok
def T238 (P : Program) : Nat → FFn := tnode 217 (T234 P) (T237 P)
theorem T238_ok : Tab (env Go.Proofs.Tryz.prog) (T238 Go.Proofs.Tryz.prog) := tab_node T234_ok T237_ok
def T239 (P : Program) : Nat → FFn := tnode 214 (T231 P) (T238 P)
theorem T239_ok : Tab (env Go.Proofs.Tryz.prog) (T239 Go.Proofs.Tryz.prog) := tab_node T231_ok T238_ok
def T240 (P : Program) : Nat → FFn := tleaf 219 q219
theorem T240_ok : Tab (env Go.Proofs.Tryz.prog) (T240 Go.Proofs.Tryz.prog) := tab_leaf l219
def T241 (P : Program) : Nat → FFn := tleaf 220 q220
theorem T241_ok : Tab (env Go.Proofs.Tryz.prog) (T241 Go.Proofs.Tryz.prog) := tab_leaf l220
def T242 (P : Program) : Nat → FFn := tnode 220 (T240 P) (T241 P)
theorem T242_ok : Tab (env Go.Proofs.Tryz.prog) (T242 Go.Proofs.Tryz.prog) := tab_node T240_ok T241_ok
def T243 (P : Program) : Nat → FFn := tleaf 222 q222
theorem T243_ok : Tab (env Go.Proofs.Tryz.prog) (T243 Go.Proofs.Tryz.prog) := tab_leaf l222
def T244 (P : Program) : Nat → FFn := tleaf 223 q223
theorem T244_ok : Tab (env Go.Proofs.Tryz.prog) (T244 Go.Proofs.Tryz.prog) := tab_leaf l223
def T245 (P : Program) : Nat → FFn := tnode 223 (T243 P) (T244 P)
theorem T245_ok : Tab (env Go.Proofs.Tryz.prog) (T245 Go.Proofs.Tryz.prog) := tab_node T243_ok T244_ok
def T246 (P : Program) : Nat → FFn := tnode 222 (T242 P) (T245 P)
theorem T246_ok : Tab (env Go.Proofs.Tryz.prog) (T246 Go.Proofs.Tryz.prog) := tab_node T242_ok T245_ok
def T247 (P : Program) : Nat → FFn := tleaf 224 (q224 P)
theorem T247_ok : Tab (env Go.Proofs.Tryz.prog) (T247 Go.Proofs.Tryz.prog) := tab_leaf l224
def T248 (P : Program) : Nat → FFn := tleaf 226 q226
theorem T248_ok : Tab (env Go.Proofs.Tryz.prog) (T248 Go.Proofs.Tryz.prog) := tab_leaf l226
def T249 (P : Program) : Nat → FFn := tnode 226 (T247 P) (T248 P)
theorem T249_ok : Tab (env Go.Proofs.Tryz.prog) (T249 Go.Proofs.Tryz.prog) := tab_node T247_ok T248_ok
def T250 (P : Program) : Nat → FFn := tleaf 234 q234
theorem T250_ok : Tab (env Go.Proofs.Tryz.prog) (T250 Go.Proofs.Tryz.prog) := tab_leaf l234
def T251 (P : Program) : Nat → FFn := tleaf 238 q238
theorem T251_ok : Tab (env Go.Proofs.Tryz.prog) (T251 Go.Proofs.Tryz.prog) := tab_leaf l238
def T252 (P : Program) : Nat → FFn := tleaf 239 q239
theorem T252_ok : Tab (env Go.Proofs.Tryz.prog) (T252 Go.Proofs.Tryz.prog) := tab_leaf l239
def T253 (P : Program) : Nat → FFn := tnode 239 (T251 P) (T252 P)
theorem T253_ok : Tab (env Go.Proofs.Tryz.prog) (T253 Go.Proofs.Tryz.prog) := tab_node T251_ok T252_ok
def T254 (P : Program) : Nat → FFn := tnode 238 (T250 P) (T253 P)
theorem T254_ok : Tab (env Go.Proofs.Tryz.prog) (T254 Go.Proofs.Tryz.prog) := tab_node T250_ok T253_ok
def T255 (P : Program) : Nat → FFn := tnode 234 (T249 P) (T254 P)
theorem T255_ok : Tab (env Go.Proofs.Tryz.prog) (T255 Go.Proofs.Tryz.prog) := tab_node T249_ok T254_ok
def T256 (P : Program) : Nat → FFn := tnode 224 (T246 P) (T255 P)
theorem T256_ok : Tab (env Go.Proofs.Tryz.prog) (T256 Go.Proofs.Tryz.prog) := tab_node T246_ok T255_ok
def T257 (P : Program) : Nat → FFn := tnode 219 (T239 P) (T256 P)
theorem T257_ok : Tab (env Go.Proofs.Tryz.prog) (T257 Go.Proofs.Tryz.prog) := tab_node T239_ok T256_ok
def T258 (P : Program) : Nat → FFn := tnode 205 (T224 P) (T257 P)
theorem T258_ok : Tab (env Go.Proofs.Tryz.prog) (T258 Go.Proofs.Tryz.prog) := tab_node T224_ok T257_ok
def T259 (P : Program) : Nat → FFn := tnode 149 (T193 P) (T258 P)
theorem T259_ok : Tab (env Go.Proofs.Tryz.prog) (T259 Go.Proofs.Tryz.prog) := tab_node T193_ok T258_ok
def T260 (P : Program) : Nat → FFn := tnode 98 (T128 P) (T259 P)
theorem T260_ok : Tab (env Go.Proofs.Tryz.prog) (T260 Go.Proofs.Tryz.prog) := tab_node T128_ok T259_ok
def TT (P : Program) : Nat → FFn := T260 P
theorem TT_ok : Tab (env Go.Proofs.Tryz.prog) (TT Go.Proofs.Tryz.prog) := T260_ok
end Run
end Go.Abs
