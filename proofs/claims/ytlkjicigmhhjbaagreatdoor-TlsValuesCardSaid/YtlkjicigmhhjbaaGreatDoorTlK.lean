/- The words of descriptions: walks of the program. -/
import Derived.Test.YtlkjicigmhhjbaaGreatDoorTlA
set_option linter.unusedVariables false
set_option linter.unusedSimpArgs false
namespace Go.Abs
noncomputable section
namespace Run
variable {E : Env} {T : Nat → ZE}
set_option maxHeartbeats 4000000
set_option maxRecDepth 100000
attribute [local go_sem] Zny Zib Zn1 Zh9 Zih Zh8 Zie Znx Zid Zic Znw Zbi Zij Zbg Zif Zeg Zbh Vh Zeh Znz Zil Zef Zig Zii Zik Zei Zbf Zej Zn0 Zf5 Zf4 Zia Zjw Zjx Zn5 Zoa Zim Zir Zip Zbk Zbj Vi Zio Zin Zn2 Zek Zit Ziq Zis Zel Zn8 Zn6 Zn9 Zn4 Zjz Zn7 Zj0 Zob Zg5 Zj1 Zof Zoe Zoh Ziu Zog Zxo Zxp Zxm Zxn Zue Zuf Zjc Zjb Zjd Zjj Zji Zjk Zpw Zpv Zfc Zfd Zfb Zot Zkn Zko Zkm Ze9 Zi5 Zby Ze6 Ze7 Zbz Zb0 Zi8 Zi7 Zi6 Zbv Ux Zc1 Zi2 Zo8 Zv4 Z2a UA Uz Zkj Zpi Zb1 Ze5 WS We UD Vp U5 patch Vn Vo Uw Uv Zcg Zcf VL VM Zbe Zfk Zcb UE Vs Uy Zb2 Zkl Zhd Vm Ws Vq mem_cons Zpq Zo7 Uo Option.map_some Option.map_none Zfa Zgm Zgo Zgn Zpk Zhc Zdu Zkk Zbx Zdw UK UF UL Zch UG UJ UH Vt UI Ze2 Zbt Ze4 Zez Zi4 Ze0 Ze3 Ze1 Zbu Zbs ZX U6 Vc Zfw WW XH Zp3 Zp2 Z51 V5 Zaf Zfo Zc3 Vk Uq Vr WT Wp UN Zba Zck List.drop_succ_cons List.drop_zero List.drop_nil List.take_succ_cons List.take_zero List.take_nil List.length_cons List.length_nil List.length_append List.cons_append List.nil_append Nat.reduceAdd Nat.reduceEqDiff Nat.reduceLeDiff Nat.reduceLT List.cons.injEq reduceCtorEq eq_self not_true_eq_false not_false_eq_true and_false false_and true_or or_true decide_true decide_false Bool.and_self Bool.and_true Bool.true_and Bool.true_or Bool.or_true Bool.false_or Bool.or_false Bool.false_and Bool.and_false Bool.not_true Bool.not_false cond_true cond_false true_and and_true Zg4 Zpg Zpz reduceIte Nat.add_zero Nat.zero_add Nat.add_sub_cancel Nat.reduceMul Nat.reduceSub Nat.reduceBEq List.map_cons List.map_nil Zm Zl WV YG Xu Yn
def Z5a : ZE := Y5 YI (fun t h => .ok (Gt 4 t) h)
 (Z0 (Z1<|fo (Yf (kS [])) (St 4)<|Z2)
 (Z0 (Z1<|fo (Yf (kS [98,101])) (St 5)<|Z2)
 (Z0 (Z0 (Z1<|mM 1 6<|Z2)
 (Z7 (Gt 6) (Z1<|fo (Yf (kS [108,101])) (St 5)<|Z2) Z8))
 (Z0 (Z0 (Z1<|mM 0 7<|Z2)
 (Zc 0 (Z0 (Z1<|fo (mQ 3 7 1) (St 9)<|mM 9 8<|Z2)
 (Z7 (Gt 8) (Z0 (Z1<|fo (Yf (kS [117,56])) (St 4)<|Z2)
 Zb) (Z0 (Z1 <| fo (mQ 3 7 2) (St 11) <| mM 11 10 <| Z2)
 (Z7 (Gt 10) (Z0 (Z1<|mM 5 12<|fo (Zd Y2 .add 9 (.const (.string ⟨#[117,49,54]⟩)) (.tmp 12) (kS [117,49,54]) (Gt 12)) (St 13)<|mM 13 4<|Z2)
 Zb) (Z0 (Z1 <| fo (mQ 3 7 3) (St 15) <| mM 15 14 <| Z2)
 (Z7 (Gt 14) (Z0 (Z1<|mM 5 16<|fo (Zd Y2 .add 9 (.const (.string ⟨#[117,50,52]⟩)) (.tmp 16) (kS [117,50,52]) (Gt 16)) (St 17)<|mM 17 4<|Z2)
 Zb) (Z0 (Z1 <| fo (mQ 3 7 4) (St 19) <| mM 19 18 <| Z2)
 (Z7 (Gt 18) (Z0 (Z1<|mM 5 20<|fo (Zd Y2 .add 9 (.const (.string ⟨#[117,51,50]⟩)) (.tmp 20) (kS [117,51,50]) (Gt 20)) (St 21)<|mM 21 4<|Z2)
 Zb) (Z0 (Z1 <| fo (mQ 3 7 8) (St 23) <| mM 23 22 <| Z2)
 (Z7 (Gt 22) (Z0 (Z1<|mM 5 24<|fo (Zd Y2 .add 9 (.const (.string ⟨#[117,54,52]⟩)) (.tmp 24) (kS [117,54,52]) (Gt 24)) (St 25)<|mM 25 4<|Z2)
 Zb) Z8))))))))))))
 (Z0 (Z1<|fo (Yf (kS [])) (St 4)<|Z2)
 Zb)))))
def q96 : ZE := Y5 YI (fun t h => .ok (.tup [(Gt 2) t, (Gt 3) t, (Gt 4) t]) h)
 (Z0 (Z1<|fo (Yf (kI 0)) (St 2)<|fo (Yf (kD (.v (.bool false)))) (St 3)<|fo (Yf (kD (.v (.bool false)))) (St 4)<|Z2)
 (Z0 (Z0 (Z1<|fo (Zy [(.int .i64 (.ofNat 0)),(.int .i64 (.ofNat 0)),(.int .i64 (.ofNat 0)),(.int .i64 (.ofNat 0)),(.int .i64 (.ofNat 0))] [(0,1,(kI 1)),(1,1,(kI 2)),(2,1,(kI 3)),(3,1,(kI 4)),(4,1,(kI 8))]) (St 9)<|fo (Yf (kI 0)) (St 10)<|Z2)
 (Zc 0 (ZI (Z0 (Z1<|fo (Zd Vc .lss 3 (.tmp 10) (.const (.int .i64 (.ofNat 5))) (Gt 10) (kI 5)) (St 11)<|Z2)
 (Z0 (Z7 (Gt 11) Z8 (ZL 0))
 (Z0 (Zc 1 (Z0 (Z1<|fo (u2 (Zgf false 5 1) (Gt 9) (Gt 10)) (St 12)<|mM 12 6<|Z2)
 (Z0 (Z1<|fo (Zy [(.v (.bool false)),(.v (.bool false))] [(0,1,(kD (.v (.bool false)))),(1,1,(kD (.v (.bool true))))]) (St 13)<|fo (Yf (kI 0)) (St 14)<|Z2)
 (Zc 2 (ZI (Z0 (Z1<|fo (Zd Vc .lss 3 (.tmp 14) (.const (.int .i64 (.ofNat 2))) (Gt 14) (kI 2)) (St 15)<|Z2)
 (Z0 (Z7 (Gt 15) Z8 (ZL 2))
 (Z0 (Zc 3 (Z0 (Z1<|fo (u2 (Zgf false 2 1) (Gt 13) (Gt 14)) (St 16)<|mM 16 8<|Z2)
 (Z0 (Z1<|mM 6 17<|mM 8 18<|mK 134 [(Gt 17),(Gt 18)] 19<|mM 0 20<|fo (Zd ZX .eql 9 (.tmp 19) (.tmp 20) (Gt 19) (Gt 20)) (St 21)<|Z2)
 (Z7 (Gt 21) (Z0 (Z1<|mM 6 22<|mM 8 23<|mM 22 2<|mM 23 3<|fo (Yf (kD (.v (.bool true)))) (St 4)<|Z2)
 Zb) Z8))))
 (Z1<|fo (Zd Y2 .add 3 (.tmp 14) (.const (.int .i64 (.ofNat 1))) (Gt 14) (kI 1)) (St 24)<|mM 24 14<|Z2)))))))))
 (Z1<|fo (Zd Y2 .add 3 (.tmp 10) (.const (.int .i64 (.ofNat 1))) (Gt 10) (kI 1)) (St 25)<|mM 25 10<|Z2)))))))
 (Z0 (Z1<|fo (Yf (kI 0)) (St 2)<|fo (Yf (kD (.v (.bool false)))) (St 3)<|fo (Yf (kD (.v (.bool false)))) (St 4)<|Z2)
 Zb)))
def q190 : ZE := Y5 YI (fun t h => .ok (Gt 2 t) h)
 (Z0 (Z1<|fo (Yf (kI 0)) (St 2)<|Z2)
 (Z0 (Z0 (Z1<|mM 0 3<|Z2)
 (Zc 0 (Z0 (Z1<|fo (Zd ZX .eql 9 (.tmp 3) (.const (.string ⟨#[124,124]⟩)) (Gt 3) (kS [124,124])) (St 5)<|mM 5 4<|Z2)
 (Z7 (Gt 4) (Z0 (Z1<|fo (Yf (kI 1)) (St 2)<|Z2)
 Zb) (Z0 (Z1 <| fo (Zd ZX .eql 9 (.tmp 3) (.const (.string ⟨#[38, 38]⟩)) (Gt 3) (kS [38, 38])) (St 7) <| mM 7 6 <| Z2)
 (Z7 (Gt 6) (Z0 (Z1<|fo (Yf (kI 2)) (St 2)<|Z2)
 Zb) (Z0 (Z0 (Z1 <| fo (Zd ZX .eql 9 (.tmp 3) (.const (.string ⟨#[61, 61]⟩)) (Gt 3) (kS [61, 61])) (St 9) <| mM 9 8 <| Z2)
 (Z7 (Gt 8) Z8 (Z0 (Z1<|fo (Zd ZX .eql 9 (.tmp 3) (.const (.string ⟨#[33,61]⟩)) (Gt 3) (kS [33,61])) (St 10)<|mM 10 8<|Z2)
 (Z7 (Gt 8) Z8 (Z0 (Z1<|fo (Zd ZX .eql 9 (.tmp 3) (.const (.string ⟨#[60]⟩)) (Gt 3) (kS [60])) (St 11)<|mM 11 8<|Z2)
 (Z7 (Gt 8) Z8 (Z0 (Z1<|fo (Zd ZX .eql 9 (.tmp 3) (.const (.string ⟨#[60,61]⟩)) (Gt 3) (kS [60,61])) (St 12)<|mM 12 8<|Z2)
 (Z7 (Gt 8) Z8 (Z0 (Z1<|fo (Zd ZX .eql 9 (.tmp 3) (.const (.string ⟨#[62]⟩)) (Gt 3) (kS [62])) (St 13)<|mM 13 8<|Z2)
 (Z7 (Gt 8) Z8 (Z1<|fo (Zd ZX .eql 9 (.tmp 3) (.const (.string ⟨#[62,61]⟩)) (Gt 3) (kS [62,61])) (St 14)<|mM 14 8<|Z2)))))))))))
 (Z7 (Gt 8) (Z0 (Z1<|fo (Yf (kI 3)) (St 2)<|Z2)
 Zb) (Z0 (Z1 <| fo (Zd ZX .eql 9 (.tmp 3) (.const (.string ⟨#[124]⟩)) (Gt 3) (kS [124])) (St 16) <| mM 16 15 <| Z2)
 (Z7 (Gt 15) (Z0 (Z1<|fo (Yf (kI 4)) (St 2)<|Z2)
 Zb) (Z0 (Z1 <| fo (Zd ZX .eql 9 (.tmp 3) (.const (.string ⟨#[38]⟩)) (Gt 3) (kS [38])) (St 18) <| mM 18 17 <| Z2)
 (Z7 (Gt 17) (Z0 (Z1<|fo (Yf (kI 5)) (St 2)<|Z2)
 Zb) (Z0 (Z0 (Z1 <| fo (Zd ZX .eql 9 (.tmp 3) (.const (.string ⟨#[60, 60]⟩)) (Gt 3) (kS [60, 60])) (St 20) <| mM 20 19 <| Z2)
 (Z7 (Gt 19) Z8 (Z1<|fo (Zd ZX .eql 9 (.tmp 3) (.const (.string ⟨#[62,62]⟩)) (Gt 3) (kS [62,62])) (St 21)<|mM 21 19<|Z2)))
 (Z7 (Gt 19) (Z0 (Z1<|fo (Yf (kI 6)) (St 2)<|Z2)
 Zb) (Z0 (Z0 (Z1 <| fo (Zd ZX .eql 9 (.tmp 3) (.const (.string ⟨#[43]⟩)) (Gt 3) (kS [43])) (St 23) <| mM 23 22 <| Z2)
 (Z7 (Gt 22) Z8 (Z1<|fo (Zd ZX .eql 9 (.tmp 3) (.const (.string ⟨#[45]⟩)) (Gt 3) (kS [45])) (St 24)<|mM 24 22<|Z2)))
 (Z7 (Gt 22) (Z0 (Z1<|fo (Yf (kI 7)) (St 2)<|Z2)
 Zb) (Z0 (Z0 (Z1 <| fo (Zd ZX .eql 9 (.tmp 3) (.const (.string ⟨#[42]⟩)) (Gt 3) (kS [42])) (St 26) <| mM 26 25 <| Z2)
 (Z7 (Gt 25) Z8 (Z0 (Z1<|fo (Zd ZX .eql 9 (.tmp 3) (.const (.string ⟨#[47]⟩)) (Gt 3) (kS [47])) (St 27)<|mM 27 25<|Z2)
 (Z7 (Gt 25) Z8 (Z1<|fo (Zd ZX .eql 9 (.tmp 3) (.const (.string ⟨#[37]⟩)) (Gt 3) (kS [37])) (St 28)<|mM 28 25<|Z2)))))
 (Z7 (Gt 25) (Z0 (Z1<|fo (Yf (kI 8)) (St 2)<|Z2)
 Zb) Z8))))))))))))))))))
 (Z0 (Z1<|fo (Yf (kI 0)) (St 2)<|Z2)
 Zb)))
def q95 : ZE := Y5 YI (fun t h => .ok (Gt 2 t) h)
 (Z0 (Z1<|fo (Yf (kD (.v (.bool false)))) (St 2)<|Z2)
 (Z0 (Z0 (Z1<|mM 0 6<|Z2)
 (Zc 0 (Z0 (Z0 (Z1<|fo (Zd ZX .eql 9 (.tmp 6) (.const (.string ⟨#[99,111,110,115,116]⟩)) (Gt 6) (kS [99,111,110,115,116])) (St 8)<|mM 8 7<|Z2)
 (Z7 (Gt 7) Z8 (Z0 (Z1<|fo (Zd ZX .eql 9 (.tmp 6) (.const (.string ⟨#[115,116,114,117,99,116]⟩)) (Gt 6) (kS [115,116,114,117,99,116])) (St 9)<|mM 9 7<|Z2)
 (Z7 (Gt 7) Z8 (Z0 (Z1<|fo (Zd ZX .eql 9 (.tmp 6) (.const (.string ⟨#[112,97,99,107]⟩)) (Gt 6) (kS [112,97,99,107])) (St 10)<|mM 10 7<|Z2)
 (Z7 (Gt 7) Z8 (Z0 (Z1<|fo (Zd ZX .eql 9 (.tmp 6) (.const (.string ⟨#[119,104,101,114,101]⟩)) (Gt 6) (kS [119,104,101,114,101])) (St 11)<|mM 11 7<|Z2)
 (Z7 (Gt 7) Z8 (Z0 (Z1<|fo (Zd ZX .eql 9 (.tmp 6) (.const (.string ⟨#[115,105,122,101,111,102]⟩)) (Gt 6) (kS [115,105,122,101,111,102])) (St 12)<|mM 12 7<|Z2)
 (Z7 (Gt 7) Z8 (Z0 (Z1<|fo (Zd ZX .eql 9 (.tmp 6) (.const (.string ⟨#[99,111,117,110,116,111,102]⟩)) (Gt 6) (kS [99,111,117,110,116,111,102])) (St 13)<|mM 13 7<|Z2)
 (Z7 (Gt 7) Z8 (Z0 (Z1<|fo (Zd ZX .eql 9 (.tmp 6) (.const (.string ⟨#[99,114,99,51,50]⟩)) (Gt 6) (kS [99,114,99,51,50])) (St 14)<|mM 14 7<|Z2)
 (Z7 (Gt 7) Z8 (Z0 (Z1<|fo (Zd ZX .eql 9 (.tmp 6) (.const (.string ⟨#[97,100,108,101,114,51,50]⟩)) (Gt 6) (kS [97,100,108,101,114,51,50])) (St 15)<|mM 15 7<|Z2)
 (Z7 (Gt 7) Z8 (Z0 (Z1<|fo (Zd ZX .eql 9 (.tmp 6) (.const (.string ⟨#[98,121,116,101,115]⟩)) (Gt 6) (kS [98,121,116,101,115])) (St 16)<|mM 16 7<|Z2)
 (Z7 (Gt 7) Z8 (Z0 (Z1<|fo (Zd ZX .eql 9 (.tmp 6) (.const (.string ⟨#[122,101,114,111]⟩)) (Gt 6) (kS [122,101,114,111])) (St 17)<|mM 17 7<|Z2)
 (Z7 (Gt 7) Z8 (Z0 (Z1<|fo (Zd ZX .eql 9 (.tmp 6) (.const (.string ⟨#[115,107,105,112]⟩)) (Gt 6) (kS [115,107,105,112])) (St 18)<|mM 18 7<|Z2)
 (Z7 (Gt 7) Z8 (Z0 (Z1<|fo (Zd ZX .eql 9 (.tmp 6) (.const (.string ⟨#[119,105,110,100,111,119]⟩)) (Gt 6) (kS [119,105,110,100,111,119])) (St 19)<|mM 19 7<|Z2)
 (Z7 (Gt 7) Z8 (Z0 (Z1<|fo (Zd ZX .eql 9 (.tmp 6) (.const (.string ⟨#[97,116]⟩)) (Gt 6) (kS [97,116])) (St 20)<|mM 20 7<|Z2)
 (Z7 (Gt 7) Z8 (Z0 (Z1<|fo (Zd ZX .eql 9 (.tmp 6) (.const (.string ⟨#[114,101,115,116]⟩)) (Gt 6) (kS [114,101,115,116])) (St 21)<|mM 21 7<|Z2)
 (Z7 (Gt 7) Z8 (Z0 (Z1<|fo (Zd ZX .eql 9 (.tmp 6) (.const (.string ⟨#[116,97,105,108]⟩)) (Gt 6) (kS [116,97,105,108])) (St 22)<|mM 22 7<|Z2)
 (Z7 (Gt 7) Z8 (Z0 (Z1<|fo (Zd ZX .eql 9 (.tmp 6) (.const (.string ⟨#[110,111,110,101]⟩)) (Gt 6) (kS [110,111,110,101])) (St 23)<|mM 23 7<|Z2)
 (Z7 (Gt 7) Z8 (Z0 (Z1<|fo (Zd ZX .eql 9 (.tmp 6) (.const (.string ⟨#[115,119,105,116,99,104]⟩)) (Gt 6) (kS [115,119,105,116,99,104])) (St 24)<|mM 24 7<|Z2)
 (Z7 (Gt 7) Z8 (Z0 (Z1<|fo (Zd ZX .eql 9 (.tmp 6) (.const (.string ⟨#[99,97,115,101]⟩)) (Gt 6) (kS [99,97,115,101])) (St 25)<|mM 25 7<|Z2)
 (Z7 (Gt 7) Z8 (Z1<|fo (Zd ZX .eql 9 (.tmp 6) (.const (.string ⟨#[101,108,115,101]⟩)) (Gt 6) (kS [101,108,115,101])) (St 26)<|mM 26 7<|Z2)))))))))))))))))))))))))))))))))))))
 (Z7 (Gt 7) (Z0 (Z1<|fo (Yf (kD (.v (.bool true)))) (St 2)<|Z2)
 Zb) Z8))))
 (Z0 (Z1<|mM 0 28<|mK 96 [(Gt 28)] 29<|mM 29 27<|mE 0 27 30<|mE 1 27 31<|mE 2 27 32<|mM 30 3<|mM 31 4<|mM 32 5<|Z2)
 (Z0 (Z1<|mM 5 33<|mM 33 2<|Z2)
 Zb))))
def Zxi (size : Nat) (little : Bool) : List Nat :=
  if size = 1 then [117, 56] else if size = 2 then bif little then [117, 49, 54, 108, 101] else [117, 49, 54, 98, 101] else if size = 3 then bif little then [117, 50, 52, 108, 101] else [117, 50, 52, 98, 101] else if size = 4 then bif little then [117, 51, 50, 108, 101] else [117, 51, 50, 98, 101] else if size = 8 then bif little then [117, 54, 52, 108, 101] else [117, 54, 52, 98, 101] else []
def Zc4 (w : List Nat) : Nat × Bool × Bool :=
  if [117, 56] = w then (1, false, true) else if [117, 49, 54, 98, 101] = w then (2, false, true) else if [117, 49, 54, 108, 101] = w then (2, true, true) else if [117, 50, 52, 98, 101] = w then (3, false, true) else if [117, 50, 52, 108, 101] = w then (3, true, true) else if [117, 51, 50, 98, 101] = w then (4, false, true) else if [117, 51, 50, 108, 101] = w then (4, true, true) else if [117, 54, 52, 98, 101] = w then (8, false, true) else if [117, 54, 52, 108, 101] = w then (8, true, true) else (0, false, false)
theorem Z6y (h208 : T 134 = Z5a) {size : Nat} {little : Bool} {h : H} {Q : D → H → Prop} {R : Uk} (k : ∀ d, d = .str (Zxi size little) → Q d h) : VC E T 134 [.int .i64 (.ofNat size), .v (.bool little)] h Q R := by
  refine YK h208 ?_
  unfold YI
  cases little
  all_goals repeat' (with_reducible (first | refine ZA ?_ | refine ZB ?_ | refine ZQ ?_ | refine ZP ?_ | refine ZD ?_ | refine Zt ?_ | refine ZC ?_ | refine ZR ?_ | refine ZO ?_ | refine ZG ?_ | refine ZS ?_ | simp (maxSteps := 2000000) (disch := first | assumption | (show WN _ _; first | assumption | ((iterate 6 (try refine X5 (by assumption) (by omega) ?_)); first | assumption | exact X4 (by assumption) (by omega) | exact X3 (by assumption) (by assumption) | exact Yv | exact Vv (by assumption) (by assumption) (by assumption) (by omega) (by assumption))) | (refine Zyg (by assumption) ?_; (show WN _ _; first | assumption | ((iterate 6 (try refine X5 (by assumption) (by omega) ?_)); first | assumption | exact X4 (by assumption) (by omega) | exact X3 (by assumption) (by assumption) | exact Yv | exact Vv (by assumption) (by assumption) (by assumption) (by omega) (by assumption)))) | omega | (simp only [Zm, Zl, List.length_cons, List.length_nil, List.length_append, List.length_take, List.length_drop]; omega) | fail) only [go_sem, -Int.reduceOfNat] | ((first | refine Yh ?_ ?_ | refine ZV ?_ ?_ | refine Yg ?_ ?_ | refine ZT ?_ ?_ | refine ZU ?_ ?_ | refine ZH ?_ ?_) <;> intro _) | (refine Zjy ?_) | refine k _ ?_))
  all_goals simp [Zxi, *]
theorem Z5z {w : List Nat} (h : (Zc4 w).2.2 = false) : Zc4 w = (0, false, false) := by
  unfold Zc4 at h ⊢
  repeat' split at h
  all_goals first | (cases h; done) | simp [*]
theorem Zxl (h208 : T 134 = Z5a) (h155 : T 96 = q96) {w : List Nat} {h : H} {Q : D → H → Prop} {R : Uk} (hq : ((Zc4 w).2.2 = true → Q (.tup [.int .i64 (.ofNat (Zc4 w).1), .v (.bool (Zc4 w).2.1), .v (.bool true)]) h) ∧ ((Zc4 w).2.2 = false → Q (.tup [.int .i64 (.ofNat 0), .v (.bool false), .v (.bool false)]) h)) : VC E T 96 [.str w] h Q R := by
  have k : ∀ d, d = .tup [.int .i64 (.ofNat (Zc4 w).1), .v (.bool (Zc4 w).2.1), .v (.bool (Zc4 w).2.2)] → Q d h := by
    rintro d rfl
    cases hc : (Zc4 w).2.2 with
    | true => exact hq.1 hc
    | false => rw [Z5z hc]; exact hq.2 hc
  refine YK h155 ?_
  unfold YI
  repeat' (with_reducible (first | refine ZA ?_ | refine ZB ?_ | refine ZQ ?_ | refine ZP ?_ | refine ZD ?_ | refine Zt ?_ | refine ZC ?_ | refine ZR ?_ | refine ZO ?_ | refine ZG ?_ | refine ZS ?_ | refine Z6y h208 ?_ | simp (maxSteps := 2000000) (disch := first | assumption | (show WN _ _; first | assumption | ((iterate 6 (try refine X5 (by assumption) (by omega) ?_)); first | assumption | exact X4 (by assumption) (by omega) | exact X3 (by assumption) (by assumption) | exact Yv | exact Vv (by assumption) (by assumption) (by assumption) (by omega) (by assumption))) | (refine Zyg (by assumption) ?_; (show WN _ _; first | assumption | ((iterate 6 (try refine X5 (by assumption) (by omega) ?_)); first | assumption | exact X4 (by assumption) (by omega) | exact X3 (by assumption) (by assumption) | exact Yv | exact Vv (by assumption) (by assumption) (by assumption) (by omega) (by assumption)))) | omega | (simp only [Zm, Zl, List.length_cons, List.length_nil, List.length_append, List.length_take, List.length_drop]; omega) | fail) only [go_sem, -Int.reduceOfNat, Zxi, *] | ((first | refine Yh ?_ ?_ | refine ZV ?_ ?_ | refine Yg ?_ ?_ | refine ZT ?_ ?_ | refine ZU ?_ ?_ | refine ZH ?_ ?_) <;> intro _) | (refine Zjy (Z26 0 6 9 10 13 14 ?_); intro t kt0 kt6 kt9 kt10 kt13 kt14; simp only [go_sem, -Int.reduceOfNat, *] at kt0 kt6 kt9 kt10 kt13 kt14) | (refine Zjy ?_) | refine k _ ?_ | (intro _ hd; subst hd)))
  all_goals simp [Zc4, *]
def level (op : List Nat) : Nat :=
  if op = [124, 124] then 1 else if op = [38, 38] then 2 else if op = [61, 61] then 3 else if op = [33, 61] then 3 else if op = [60] then 3 else if op = [60, 61] then 3 else if op = [62] then 3 else if op = [62, 61] then 3 else if op = [124] then 4 else if op = [38] then 5 else if op = [60, 60] then 6 else if op = [62, 62] then 6 else if op = [43] then 7 else if op = [45] then 7 else if op = [42] then 8 else if op = [47] then 8 else if op = [37] then 8 else 0
def Zwo (s : List Nat) : Bool :=
  if s = [99, 111, 110, 115, 116] then true else if s = [115, 116, 114, 117, 99, 116] then true else if s = [112, 97, 99, 107] then true else if s = [119, 104, 101, 114, 101] then true else if s = [115, 105, 122, 101, 111, 102] then true else if s = [99, 111, 117, 110, 116, 111, 102] then true else if s = [99, 114, 99, 51, 50] then true else if s = [97, 100, 108, 101, 114, 51, 50] then true else if s = [98, 121, 116, 101, 115] then true else if s = [122, 101, 114, 111] then true else if s = [115, 107, 105, 112] then true else if s = [119, 105, 110, 100, 111, 119] then true else if s = [97, 116] then true else if s = [114, 101, 115, 116] then true else if s = [116, 97, 105, 108] then true else if s = [110, 111, 110, 101] then true else if s = [115, 119, 105, 116, 99, 104] then true else if s = [99, 97, 115, 101] then true else if s = [101, 108, 115, 101] then true else (Zc4 s).2.2
theorem Zxk (h208 : T 134 = Z5a) (h155 : T 96 = q96) (h154 : T 95 = q95) {s : List Nat} {h : H} {Q : D → H → Prop} {R : Uk} (hq : (Zwo s = true → Q (.v (.bool true)) h) ∧ (Zwo s = false → Q (.v (.bool false)) h)) : VC E T 95 [.str s] h Q R := by
  have k : ∀ d, d = .v (.bool (Zwo s)) → Q d h := by
    rintro d rfl
    cases hc : Zwo s with
    | true => exact hq.1 hc
    | false => exact hq.2 hc
  refine YK h154 ?_
  unfold YI
  repeat' (with_reducible (first | refine ZA ?_ | refine ZB ?_ | refine ZQ ?_ | refine ZP ?_ | refine ZD ?_ | refine Zt ?_ | refine ZC ?_ | refine ZR ?_ | refine ZO ?_ | refine ZG ?_ | refine ZS ?_ | refine Zxl h208 h155 ⟨?_, ?_⟩ | simp (maxSteps := 2000000) (disch := first | assumption | (show WN _ _; first | assumption | ((iterate 6 (try refine X5 (by assumption) (by omega) ?_)); first | assumption | exact X4 (by assumption) (by omega) | exact X3 (by assumption) (by assumption) | exact Yv | exact Vv (by assumption) (by assumption) (by assumption) (by omega) (by assumption))) | (refine Zyg (by assumption) ?_; (show WN _ _; first | assumption | ((iterate 6 (try refine X5 (by assumption) (by omega) ?_)); first | assumption | exact X4 (by assumption) (by omega) | exact X3 (by assumption) (by assumption) | exact Yv | exact Vv (by assumption) (by assumption) (by assumption) (by omega) (by assumption)))) | omega | (simp only [Zm, Zl, List.length_cons, List.length_nil, List.length_append, List.length_take, List.length_drop]; omega) | fail) only [go_sem, -Int.reduceOfNat, *] | ((first | refine Yh ?_ ?_ | refine ZV ?_ ?_ | refine Yg ?_ ?_ | refine ZT ?_ ?_ | refine ZU ?_ ?_ | refine ZH ?_ ?_) <;> intro _) | (refine Zjy ?_) | refine k _ ?_ | intro _))
  all_goals simp [Zwo, *]
end Run
end
end Go.Abs
