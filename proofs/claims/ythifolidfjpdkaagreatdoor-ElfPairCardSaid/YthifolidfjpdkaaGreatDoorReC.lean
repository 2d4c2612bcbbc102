/- Expressions: operators: walks of the program. -/
import Derived.Test.YthifolidfjpdkaaGreatDoorRdS
import Derived.Test.YthifolidfjpdkaaGreatDoorReA
import Derived.Test.YthifolidfjpdkaaGreatDoorReB
set_option linter.unusedVariables false
set_option linter.unusedSimpArgs false
namespace Go.Abs
noncomputable section
namespace Run
variable {E : Env} {T : Nat → ZV}
set_option maxHeartbeats 4000000
set_option maxRecDepth 100000
attribute [local go_sem] Zc2 Ud Zc3 Ub Uj Ua Ug Zc1 Uf Ue Zc0 XJ Ul XG Uh WM XH Ym WN UY Un WL Ui Uk Um WO YN WQ Zam Wq Wp Uc Vw Vx Zc5 Zc6 Uo Ut Ur XL XK Yn Uq Up Zc4 WR Uv Us Uu WS Zar Zap Zas Zao Vz Zaq VA Zat Vy VB Zc7 Zau Zc9 Uw Zc8 Zir Zis Zip Ziq Zes Zet UG UF UH UJ UI UK Zdh Zdg V7 V8 V6 Zda VI VJ VH V4 UA XU V1 V3 XV XW UD UC UB XR YX Wg Uy Zdd Zez Zps X0 YZ VE Za8 XX V0 Y0 ZH X2 Ys WI patch Yq Yr YW YV Wc Wb Xj Xk XD V9 Wa X3 Yv YY XY Xt X1 Yp ZN Yt mem_cons Zdf Zdc YT Option.map_some Option.map_none V5 Wx Wz Wy Za9 VG Ww VF YO YP X9 X4 Xa Wd X5 X8 X6 Yw X7 WX XP WZ WU Uz WV WY WW XQ XO YG Wo WH Zgx Zcp Zcy Zbp Zdj Zq7 Xi Xz Va WB Yo YU Yu Y1 ZU YH ZW Xm List.drop_succ_cons List.drop_zero List.drop_nil List.take_succ_cons List.take_zero List.take_nil List.length_cons List.length_nil List.length_append List.cons_append List.nil_append Nat.reduceAdd Nat.reduceEqDiff Nat.reduceLeDiff Nat.reduceLT List.cons.injEq reduceCtorEq eq_self not_true_eq_false not_false_eq_true and_false false_and true_or or_true decide_true decide_false Bool.and_self Bool.and_true Bool.true_and Bool.true_or Bool.or_true Bool.false_or Bool.or_false Bool.false_and Bool.and_false Bool.not_true Bool.not_false cond_true cond_false true_and and_true Zah Zde Zdi reduceIte Nat.add_zero Nat.zero_add Nat.add_sub_cancel Nat.reduceMul Nat.reduceSub Nat.reduceBEq List.map_cons List.map_nil Z8 Z7 Y2 Zi Zb Z9 Ws Zeu Wk ZY ZL Wu Wt XN XM and_assoc exists_and_left D.str.injEq Nat.lt_irrefl Nat.not_lt_zero true_implies false_implies implies_true forall_const ge_iff_le gt_iff_lt Nat.sub_zero List.append_assoc Option.some.injEq AObj.cells.injEq D.int.injEq D.ptr.injEq Int.ofNat.injEq exists_eq_left' D.v.injEq Value.bool.injEq D.agg.injEq Nat.mul_one
section
variable {h : H} {Q : D → H → Prop} {R : ZM}
def q182 : ZV := Zbg Zf (fun t h => .ok (.tup [(Gt 6) t,(Gt 7) t]) h)
 (Z0 (Z1<|fo (Zh (kD (.int .u64 (.ofNat 0)))) (St 6)<|fo (Zh (kI 0)) (St 7)<|Z2)
 (Z0 (ZA 0 (Z0 (Z1<|mM 0 10<|fo (Za YG .eql 23 (.tmp 10) (.const (.pointer none)) (Gt 10) (kD (.v (.pointer none)))) (St 11)<|mM 11 9<|Z2)
 (Zg (Gt 9) (Z0 (Z1<|fo (Zh (kD (.int .u64 (.ofNat 0)))) (St 6)<|fo (Zh (kI 1)) (St 7)<|Z2)
 Zv) (Z0 (Z1 <| mM 1 13 <| fo (Za WH .lss 3 (.tmp 13) (.const (.int .i64 (.ofNat 0))) (Gt 13) (kI 0)) (St 14) <| mM 14 15 <| Yl (Gt 15) false (Zh (Gt 1)) (St 16) <| Yl (Gt 15) false (Zh (Gt 0)) (St 17) <| Yl (Gt 15) false (u1 Z4 (Gt 17)) (St 18) <| Yl (Gt 15) false (u1 (Zt 2) (Gt 18)) (St 19) <| Yl (Gt 15) false (Zl (Gt 19)) (St 20) <| Yl (Gt 15) false (u1 Yy (Gt 20)) (St 21) <| Yl (Gt 15) false (Za Zcy .geq 3 (.tmp 16) (.tmp 21) (Gt 16) (Gt 21)) (St 22) <| fo (Yb (Gt 15) (kD (.v (.bool true))) (Gt 22)) (St 23) <| mM 23 24 <| Yl (Gt 24) false (Zh (Gt 0)) (St 25) <| Yl (Gt 24) false (u1 Z4 (Gt 25)) (St 26) <| Yl (Gt 24) false (u1 (Zt 2) (Gt 26)) (St 27) <| Yl (Gt 24) false (Zl (Gt 27)) (St 28) <| Yl (Gt 24) false (Zh (Gt 1)) (St 29) <| Yl (Gt 24) false (Zw 233 [(Gt 28),(Gt 29)]) (St 30) <| Yl (Gt 24) false (u1 (Ze7 .not) (Gt 30)) (St 31) <| fo (Yb (Gt 24) (kD (.v (.bool true))) (Gt 31)) (St 32) <| mM 32 12 <| Z2)
 (Zg (Gt 12) (Z0 (Z1<|fo (Zh (kD (.int .u64 (.ofNat 0)))) (St 6)<|fo (Zh (kI 2)) (St 7)<|Z2)
 Zv) Zx)))))
 (Z0 (Z1<|mM 0 33<|mN 33 34<|mF 2 34 35<|mL 35 36<|mM 2 37<|fo (Zo7) (St 38)<|fo (YQ [(.v (.slice none 0 0)),(.v (.slice none 0 0)),(.v (.map none))] [(0,1,(Gt 36)),(1,1,(Gt 37)),(2,1,(Gt 38))]) (St 39)<|fo (Zai 360 (Gt 39)) (St 40)<|mM 1 41<|mK 234 [(Gt 40),(Gt 41)] 42<|fo (Zo 356 [(.int .u64 (.ofNat 0)),(.int .i64 (.ofNat 0))]) (St 8)<|fo (ZF 2 (Gt 8) (Gt 42)) p0<|Z2)
 (Z0 (Xf<|Ze (u1 (Zt 0) (Gt 8)) (St 43)<|Xw 1 [] 1 (Gt 43) (Zl (Gt 43)) (St 44)<|Ze (u1 (Zt 1) (Gt 8)) (St 45)<|Xw 3 [0,1] 1 (Gt 45) (Zl (Gt 45)) (St 46)<|Ze (Zh (Gt 44)) (St 6)<|Ze (Zh (Gt 46)) (St 7)<|Xg)
 Zv))))
def q234 : ZV := Zbg Zf (fun t h => UP ⟨[.cN 4 2],.skip⟩ (act t) h)
 (Z0 (Z1<|fo (Zo 356 [(.int .u64 (.ofNat 0)),(.int .i64 (.ofNat 0))]) (St 4)<|Z2)
 (Z0 (Z0 (Z1<|mM 0 9<|mN 9 10<|mF 2 10 11<|mL 11 12<|mM 1 13<|fo (u2 (fun x k => Ze9 0 (.agg [(.int .u64 (.ofNat 0)),(.int .i64 (.ofNat 0))]) x k true) (Gt 12) (Gt 13)) (St 14)<|mM 14 8<|mE 0 8 15<|mE 1 8 16<|fo (Zo 356 [(.int .u64 (.ofNat 0)),(.int .i64 (.ofNat 0))]) (St 5)<|fo (ZF 2 (Gt 5) (Gt 15)) p0<|mM 16 6<|Z2)
 (Z0 (Z1<|mM 6 17<|Z2)
 (Zg (Gt 17) (Z0 (Z1<|fo (YB 2 (Gt 5)) (St 18)<|fo (ZF 2 (Gt 4) (Gt 18)) p0<|Z2)
 Zv) Zx)))
 (Z0 (Z1<|mM 0 19<|mM 0 20<|mN 20 21<|mF 0 21 22<|mL 22 23<|mM 1 24<|fo (u2 (ZZ 5) (Gt 23) (Gt 24)) (St 25)<|fo (YB 5 (Gt 25)) (St 26)<|mK 276 [(Gt 19),(Gt 26)] 27<|fo (Zo 356 [(.int .u64 (.ofNat 0)),(.int .i64 (.ofNat 0))]) (St 7)<|fo (ZF 2 (Gt 7) (Gt 27)) p0<|Z2)
 (Z0 (Xf<|Ze (Zh (Gt 0)) (St 28)<|Ze (u1 Z4 (Gt 28)) (St 29)<|Ze (u1 (Zt 2) (Gt 29)) (St 30)<|Xw 3 [] 1 (Gt 30) (Zl (Gt 30)) (St 31)<|Ze (Zh (Gt 1)) (St 32)<|Xw 5 [0,1,2,3,4] 2 (Gt 7) (YB 2 (Gt 7)) (St 33)<|Zg8 6 [] (u3 (Zgf 0) (Gt 31) (Gt 32) (Gt 33)) p0<|Xg)
 (Z0 (Z1<|fo (YB 2 (Gt 7)) (St 34)<|fo (ZF 2 (Gt 4) (Gt 34)) p0<|Z2)
 Zv)))))
def q276 : ZV := Zbg Zf (fun t h => UP ⟨[.cN 4 2],.skip⟩ (act t) h)
 (Z0 (Z1<|fo (Zai 337 (Gt 1)) (St 3)<|fo (Zo 356 [(.int .u64 (.ofNat 0)),(.int .i64 (.ofNat 0))]) (St 4)<|Z2)
 (Z0 (Z0 (Z1<|mF 0 3 8<|mL 8 9<|Z2)
 (ZA 0 (Z0 (Z1<|fo (mQ 335 9 1) (St 11)<|mM 11 10<|Z2)
 (Zg (Gt 10) (Z0 (Xf<|Ze (Zh (Gt 0)) (St 13)<|Ze (u1 Z4 (Gt 13)) (St 14)<|Ze (u1 (Zt 1) (Gt 14)) (St 15)<|Xw 3 [] 1 (Gt 15) (Zl (Gt 15)) (St 16)<|Ze (u1 (Zt 3) (Gt 3)) (St 17)<|Xw 5 [0,1,2,3] 1 (Gt 17) (Zl (Gt 17)) (St 18)<|Zju 6 [] (Zw 300 [(Gt 16),(Gt 18)]) (St 19)<|Ze (Zh (Gt 19)) (St 12)<|Ze (u1 (Xe 0) (Gt 12)) (St 20)<|Ze (u1 (Xe 1) (Gt 12)) (St 21)<|Ze (Zh (Gt 20)) (St 5)<|Ze (Zh (Gt 21)) (St 6)<|Xg)
 (Z0 (Z0 (Z1<|mM 6 22<|fo (u1 (Ze7 .not) (Gt 22)) (St 23)<|Z2)
 (Zg (Gt 23) (Z0 (Z1<|fo (YQ [(.int .u64 (.ofNat 0)),(.int .i64 (.ofNat 0))] [(0,1,(kD (.int .u64 (.ofNat 0)))),(1,1,(kI 11))]) (St 24)<|fo (ZF 2 (Gt 4) (Gt 24)) p0<|Z2)
 Zv) Zx))
 (Z0 (Z1<|mM 5 25<|fo (YQ [(.int .u64 (.ofNat 0)),(.int .i64 (.ofNat 0))] [(0,1,(Gt 25)),(1,1,(kI 0))]) (St 26)<|fo (ZF 2 (Gt 4) (Gt 26)) p0<|Z2)
 Zv))) (Z0 (Z1 <| fo (mQ 335 9 2) (St 28) <| mM 28 27 <| Z2)
 (Zg (Gt 27) (Z0 (Z1<|mM 0 29<|mF 4 3 30<|mL 30 31<|fo (u2 (ZZ 1) (Gt 31) (kI 0)) (St 32)<|mL 32 33<|mK 234 [(Gt 29),(Gt 33)] 34<|fo (Zo 356 [(.int .u64 (.ofNat 0)),(.int .i64 (.ofNat 0))]) (St 7)<|fo (ZF 2 (Gt 7) (Gt 34)) p0<|Z2)
 (Z0 (Z0 (Z1<|mF 1 7 35<|mL 35 36<|fo (mR 26 36 0) (St 37)<|Z2)
 (Zg (Gt 37) (Z0 (Z1<|fo (YB 2 (Gt 7)) (St 38)<|fo (ZF 2 (Gt 4) (Gt 38)) p0<|Z2)
 Zv) Zx))
 (Z0 (Z1<|mF 0 7 39<|mL 39 40<|fo (Za YG .eql 36 (.tmp 40) (.const (.int .u64 (.ofNat 0))) (Gt 40) (kD (.int .u64 (.ofNat 0)))) (St 41)<|mK 301 [(Gt 41)] 42<|fo (YQ [(.int .u64 (.ofNat 0)),(.int .i64 (.ofNat 0))] [(0,1,(Gt 42)),(1,1,(kI 0))]) (St 43)<|fo (ZF 2 (Gt 4) (Gt 43)) p0<|Z2)
 Zv))) (Z0 (Z1 <| fo (mQ 335 9 3) (St 45) <| mM 45 44 <| Z2)
 (Zg (Gt 44) (Z0 (Z1<|mM 0 46<|fo (YB 5 (Gt 3)) (St 47)<|mK 302 [(Gt 46),(Gt 47)] 48<|fo (ZF 2 (Gt 4) (Gt 48)) p0<|Z2)
 Zv) Zx))))))))
 (Z0 (Z1<|mF 2 3 49<|mL 49 50<|fo (YQ [(.int .u64 (.ofNat 0)),(.int .i64 (.ofNat 0))] [(0,1,(Gt 50)),(1,1,(kI 0))]) (St 51)<|fo (ZF 2 (Gt 4) (Gt 51)) p0<|Z2)
 Zv)))
def Z7r : ZV := Zbg Zf (fun t h => UP ⟨[.cN 4 2],.skip⟩ (act t) h)
 (Z0 (Z1<|fo (Zai 337 (Gt 1)) (St 3)<|fo (Zo 356 [(.int .u64 (.ofNat 0)),(.int .i64 (.ofNat 0))]) (St 4)<|Z2)
 (Z0 (Z1<|mM 0 9<|mF 4 3 10<|mL 10 11<|fo (u2 (ZZ 1) (Gt 11) (kI 0)) (St 12)<|mL 12 13<|mK 234 [(Gt 9),(Gt 13)] 14<|fo (Zo 356 [(.int .u64 (.ofNat 0)),(.int .i64 (.ofNat 0))]) (St 5)<|fo (ZF 2 (Gt 5) (Gt 14)) p0<|Z2)
 (Z0 (Z0 (Z1<|mF 1 5 15<|mL 15 16<|fo (mR 26 16 0) (St 17)<|Z2)
 (Zg (Gt 17) (Z0 (Z1<|fo (YB 2 (Gt 5)) (St 18)<|fo (ZF 2 (Gt 4) (Gt 18)) p0<|Z2)
 Zv) Zx))
 (Z0 (Z1<|mM 0 19<|mF 4 3 20<|mL 20 21<|fo (u2 (ZZ 1) (Gt 21) (kI 1)) (St 22)<|mL 22 23<|mK 234 [(Gt 19),(Gt 23)] 24<|fo (Zo 356 [(.int .u64 (.ofNat 0)),(.int .i64 (.ofNat 0))]) (St 6)<|fo (ZF 2 (Gt 6) (Gt 24)) p0<|Z2)
 (Z0 (Z0 (Z1<|mF 1 6 25<|mL 25 26<|fo (mR 26 26 0) (St 27)<|Z2)
 (Zg (Gt 27) (Z0 (Z1<|fo (YB 2 (Gt 6)) (St 28)<|fo (ZF 2 (Gt 4) (Gt 28)) p0<|Z2)
 Zv) Zx))
 (Z0 (Z1<|mF 1 3 30<|mL 30 31<|mF 0 5 32<|mL 32 33<|mF 0 6 34<|mL 34 35<|mK 319 [(Gt 31),(Gt 33),(Gt 35)] 36<|mM 36 29<|mE 0 29 37<|mE 1 29 38<|mM 37 7<|mM 38 8<|Z2)
 (Z0 (Z1<|mM 7 39<|mM 8 40<|fo (YQ [(.int .u64 (.ofNat 0)),(.int .i64 (.ofNat 0))] [(0,1,(Gt 39)),(1,1,(Gt 40))]) (St 41)<|fo (ZF 2 (Gt 4) (Gt 41)) p0<|Z2)
 Zv)))))))
def Z3s : ZV := Zbg Zf (fun t h => .ok (.tup [(Gt 6) t,(Gt 7) t]) h)
 (Z0 (Z1<|fo (Zh (kD (.int .u64 (.ofNat 0)))) (St 6)<|fo (Zh (kI 0)) (St 7)<|Z2)
 (Z0 (Z0 (Z1<|mM 0 10<|Z2)
 (ZA 0 (Z0 (Z1<|fo (Za YG .eql 9 (.tmp 10) (.const (.string ⟨#[43]⟩)) (Gt 10) (kS [43])) (St 12)<|mM 12 11<|Z2)
 (Zg (Gt 11) (Z0 (Z1<|mM 1 13<|mM 2 14<|mK 188 [(Gt 13),(Gt 14)] 15<|mE 0 15 16<|mE 1 15 17<|mM 16 6<|mM 17 7<|Z2)
 Zv) (Z0 (Z1 <| fo (Za YG .eql 9 (.tmp 10) (.const (.string ⟨#[45]⟩)) (Gt 10) (kS [45])) (St 19) <| mM 19 18 <| Z2)
 (Zg (Gt 18) (Z0 (Z1<|mM 1 20<|mM 2 21<|mK 335 [(Gt 20),(Gt 21)] 22<|mE 0 22 23<|mE 1 22 24<|mM 23 6<|mM 24 7<|Z2)
 Zv) (Z0 (Z1 <| fo (Za YG .eql 9 (.tmp 10) (.const (.string ⟨#[42]⟩)) (Gt 10) (kS [42])) (St 26) <| mM 26 25 <| Z2)
 (Zg (Gt 25) (Z0 (Z1<|mM 1 27<|mM 2 28<|mK 297 [(Gt 27),(Gt 28)] 29<|mE 0 29 30<|mE 1 29 31<|mM 30 6<|mM 31 7<|Z2)
 Zv) (Z0 (Z1 <| fo (Za YG .eql 9 (.tmp 10) (.const (.string ⟨#[47]⟩)) (Gt 10) (kS [47])) (St 33) <| mM 33 32 <| Z2)
 (Zg (Gt 32) (Z0 (Z1<|mM 1 34<|mM 2 35<|mK 336 [(Gt 34),(Gt 35)] 36<|mE 0 36 37<|mE 1 36 38<|mM 37 6<|mM 38 7<|Z2)
 Zv) (Z0 (Z1 <| fo (Za YG .eql 9 (.tmp 10) (.const (.string ⟨#[37]⟩)) (Gt 10) (kS [37])) (St 40) <| mM 40 39 <| Z2)
 (Zg (Gt 39) (Z0 (Z1<|mM 1 41<|mM 2 42<|mK 337 [(Gt 41),(Gt 42)] 43<|mE 0 43 44<|mE 1 43 45<|mM 44 6<|mM 45 7<|Z2)
 Zv) (Z0 (Z1 <| fo (Za YG .eql 9 (.tmp 10) (.const (.string ⟨#[60,60]⟩)) (Gt 10) (kS [60,60])) (St 47) <| mM 47 46 <| Z2)
 (Zg (Gt 46) (Z0 (Z1<|mM 1 48<|mM 2 49<|mK 338 [(Gt 48),(Gt 49)] 50<|mE 0 50 51<|mE 1 50 52<|mM 51 6<|mM 52 7<|Z2)
 Zv) (Z0 (Z1 <| fo (Za YG .eql 9 (.tmp 10) (.const (.string ⟨#[62,62]⟩)) (Gt 10) (kS [62,62])) (St 54) <| mM 54 53 <| Z2)
 (Zg (Gt 53) (Z0 (Z1<|mM 1 55<|mM 2 56<|mK 339 [(Gt 55),(Gt 56)] 57<|mE 0 57 58<|mE 1 57 59<|mM 58 6<|mM 59 7<|Z2)
 Zv) (Z0 (Z1 <| fo (Za YG .eql 9 (.tmp 10) (.const (.string ⟨#[38]⟩)) (Gt 10) (kS [38])) (St 61) <| mM 61 60 <| Z2)
 (Zg (Gt 60) (Z0 (Z1<|mM 1 62<|mM 2 63<|fo (Zr7 .and 36 (.tmp 62) (.tmp 63) (Gt 62) (Gt 63)) (St 64)<|mM 64 6<|fo (Zh (kI 0)) (St 7)<|Z2)
 Zv) (Z0 (Z1 <| fo (Za YG .eql 9 (.tmp 10) (.const (.string ⟨#[124]⟩)) (Gt 10) (kS [124])) (St 66) <| mM 66 65 <| Z2)
 (Zg (Gt 65) (Z0 (Z1<|mM 1 67<|mM 2 68<|fo (Zr7 .or 36 (.tmp 67) (.tmp 68) (Gt 67) (Gt 68)) (St 69)<|mM 69 6<|fo (Zh (kI 0)) (St 7)<|Z2)
 Zv) Zx))))))))))))))))))))
 (Z0 (Z1<|mM 0 71<|mM 1 72<|mM 2 73<|mK 340 [(Gt 71),(Gt 72),(Gt 73)] 74<|mM 74 70<|mE 0 70 75<|mE 1 70 76<|mM 75 8<|mM 76 9<|Z2)
 (Z0 (Z0 (Z1<|mM 9 77<|fo (u1 (Ze7 .not) (Gt 77)) (St 78)<|Z2)
 (Zg (Gt 78) (Z0 (Z1<|fo (Zh (kD (.int .u64 (.ofNat 0)))) (St 6)<|fo (Zh (kI 4)) (St 7)<|Z2)
 Zv) Zx))
 (Z0 (Z1<|mM 8 79<|mM 79 6<|fo (Zh (kI 0)) (St 7)<|Z2)
 Zv)))))
def Z0l : ZV := Zbg Zf (fun t h => .ok (.tup [(Gt 6) t,(Gt 7) t]) h)
 (Z0 (Z1<|fo (Zh (kD (.int .u64 (.ofNat 0)))) (St 6)<|fo (Zh (kD (.v (.bool false)))) (St 7)<|Z2)
 (Z0 (Z0 (Z1<|mM 0 8<|Z2)
 (ZA 0 (Z0 (Z1<|fo (Za YG .eql 9 (.tmp 8) (.const (.string ⟨#[61,61]⟩)) (Gt 8) (kS [61,61])) (St 10)<|mM 10 9<|Z2)
 (Zg (Gt 9) (Z0 (Z1<|mM 1 11<|mM 2 12<|fo (Za YG .eql 36 (.tmp 11) (.tmp 12) (Gt 11) (Gt 12)) (St 13)<|mK 301 [(Gt 13)] 14<|mM 14 6<|fo (Zh (kD (.v (.bool true)))) (St 7)<|Z2)
 Zv) (Z0 (Z1 <| fo (Za YG .eql 9 (.tmp 8) (.const (.string ⟨#[33,61]⟩)) (Gt 8) (kS [33,61])) (St 16) <| mM 16 15 <| Z2)
 (Zg (Gt 15) (Z0 (Z1<|mM 1 17<|mM 2 18<|fo (Za Wo .neq 36 (.tmp 17) (.tmp 18) (Gt 17) (Gt 18)) (St 19)<|mK 301 [(Gt 19)] 20<|mM 20 6<|fo (Zh (kD (.v (.bool true)))) (St 7)<|Z2)
 Zv) (Z0 (Z1 <| fo (Za YG .eql 9 (.tmp 8) (.const (.string ⟨#[60]⟩)) (Gt 8) (kS [60])) (St 22) <| mM 22 21 <| Z2)
 (Zg (Gt 21) (Z0 (Z1<|mM 1 23<|mM 2 24<|fo (Za WH .lss 36 (.tmp 23) (.tmp 24) (Gt 23) (Gt 24)) (St 25)<|mK 301 [(Gt 25)] 26<|mM 26 6<|fo (Zh (kD (.v (.bool true)))) (St 7)<|Z2)
 Zv) (Z0 (Z1 <| fo (Za YG .eql 9 (.tmp 8) (.const (.string ⟨#[60,61]⟩)) (Gt 8) (kS [60,61])) (St 28) <| mM 28 27 <| Z2)
 (Zg (Gt 27) (Z0 (Z1<|mM 1 29<|mM 2 30<|fo (Za Zgx .leq 36 (.tmp 29) (.tmp 30) (Gt 29) (Gt 30)) (St 31)<|mK 301 [(Gt 31)] 32<|mM 32 6<|fo (Zh (kD (.v (.bool true)))) (St 7)<|Z2)
 Zv) (Z0 (Z1 <| fo (Za YG .eql 9 (.tmp 8) (.const (.string ⟨#[62]⟩)) (Gt 8) (kS [62])) (St 34) <| mM 34 33 <| Z2)
 (Zg (Gt 33) (Z0 (Z1<|mM 1 35<|mM 2 36<|fo (Za Zcp .gtr 36 (.tmp 35) (.tmp 36) (Gt 35) (Gt 36)) (St 37)<|mK 301 [(Gt 37)] 38<|mM 38 6<|fo (Zh (kD (.v (.bool true)))) (St 7)<|Z2)
 Zv) (Z0 (Z1 <| fo (Za YG .eql 9 (.tmp 8) (.const (.string ⟨#[62,61]⟩)) (Gt 8) (kS [62,61])) (St 40) <| mM 40 39 <| Z2)
 (Zg (Gt 39) (Z0 (Z1<|mM 1 41<|mM 2 42<|fo (Za Zcy .geq 36 (.tmp 41) (.tmp 42) (Gt 41) (Gt 42)) (St 43)<|mK 301 [(Gt 43)] 44<|mM 44 6<|fo (Zh (kD (.v (.bool true)))) (St 7)<|Z2)
 Zv) (Z0 (Z1 <| fo (Za YG .eql 9 (.tmp 8) (.const (.string ⟨#[38,38]⟩)) (Gt 8) (kS [38,38])) (St 46) <| mM 46 45 <| Z2)
 (Zg (Gt 45) (Z0 (Z1<|mM 1 47<|fo (Za Wo .neq 36 (.tmp 47) (.const (.int .u64 (.ofNat 0))) (Gt 47) (kD (.int .u64 (.ofNat 0)))) (St 48)<|mM 48 49<|Yl (Gt 49) true (Zh (Gt 2)) (St 50)<|Yl (Gt 49) true (Za Wo .neq 36 (.tmp 50) (.const (.int .u64 (.ofNat 0))) (Gt 50) (kD (.int .u64 (.ofNat 0)))) (St 51)<|fo (Yb (Gt 49) (Gt 51) (kD (.v (.bool false)))) (St 52)<|mK 301 [(Gt 52)] 53<|mM 53 6<|fo (Zh (kD (.v (.bool true)))) (St 7)<|Z2)
 Zv) (Z0 (Z1 <| fo (Za YG .eql 9 (.tmp 8) (.const (.string ⟨#[124,124]⟩)) (Gt 8) (kS [124,124])) (St 55) <| mM 55 54 <| Z2)
 (Zg (Gt 54) (Z0 (Z1<|mM 1 56<|fo (Za Wo .neq 36 (.tmp 56) (.const (.int .u64 (.ofNat 0))) (Gt 56) (kD (.int .u64 (.ofNat 0)))) (St 57)<|mM 57 58<|Yl (Gt 58) false (Zh (Gt 2)) (St 59)<|Yl (Gt 58) false (Za Wo .neq 36 (.tmp 59) (.const (.int .u64 (.ofNat 0))) (Gt 59) (kD (.int .u64 (.ofNat 0)))) (St 60)<|fo (Yb (Gt 58) (kD (.v (.bool true))) (Gt 60)) (St 61)<|mK 301 [(Gt 61)] 62<|mM 62 6<|fo (Zh (kD (.v (.bool true)))) (St 7)<|Z2)
 Zv) Zx))))))))))))))))))
 (Z0 (Z1<|fo (Zh (kD (.int .u64 (.ofNat 0)))) (St 6)<|fo (Zh (kD (.v (.bool false)))) (St 7)<|Z2)
 Zv)))
def Zwx : ZV := Zbg Zf (fun t h => .ok (Gt 2 t) h)
 (Z0 (Z1<|fo (Zh (kD (.int .u64 (.ofNat 0)))) (St 2)<|Z2)
 (Z0 (Z0 (Z1<|mM 0 3<|Z2)
 (Zg (Gt 3) (Z0 (Z1<|fo (Zh (kD (.int .u64 (.ofNat 1)))) (St 2)<|Z2)
 Zv) Zx))
 (Z0 (Z1<|fo (Zh (kD (.int .u64 (.ofNat 0)))) (St 2)<|Z2)
 Zv)))
def Z10 (K : List (Nat × D)) : List (D × D) := K.map fun e => (.int .i64 (.ofNat e.1),e.2)
def KV (K : List (Nat × D)) : AObj := .map (Z10 K)
abbrev Vq (u : Nat × Nat) : List D := [.int .u64 (.ofNat u.1),.int .i64 (.ofNat u.2)]
def KC (es : List XE) (env : Ev) (K : List (Nat × D)) : Prop := ∀ e ∈ K,e.2 = .agg (Vq (Zhe es env (e.1 + 1) e.1))
theorem KC_nil {es : List XE} {env : Ev} : KC es env [] := fun _ h => by cases h
theorem Zrd {es : List XE} {env : Ev} {n : Nat} : ∀ {K : List (Nat × D)},KC es env K → Xr (.int .i64 (.ofNat n)) (Z10 K) = some none ∨ Xr (.int .i64 (.ofNat n)) (Z10 K) = some (some (.agg (Vq (Zhe es env (n + 1) n))))
  | [],_ => .inl rfl
  | (m,d) :: K,h => by
    have h1 := h (m,d) (List.mem_cons_self ..)
    simp only [Z10,List.map_cons,Xr,Wv,decide_true,cond_true]
    by_cases e : n = m
    · subst e
      simp only at h1
      subst h1
      exact .inr (by simp)
    · have h2 : (decide (Int.ofNat n = Int.ofNat m)) = false := decide_eq_false fun h => e (Int.ofNat.inj h)
      simp only [h2]
      exact Zrd fun x hx => h x (List.mem_cons_of_mem _ hx)
theorem Zt0 {es : List XE} {env : Ev} {n : Nat} : ∀ {K : List (Nat × D)},KC es env K → ∃ K',Ux (.int .i64 (.ofNat n)) (.agg (Vq (Zhe es env (n + 1) n))) (Z10 K) = some (Z10 K') ∧ KC es env K'
  | [],_ => ⟨[(n,.agg (Vq (Zhe es env (n + 1) n)))],rfl,fun e he => by rw [List.mem_singleton.1 he]⟩
  | (m,d) :: K,h => by
    have h1 := h (m,d) (List.mem_cons_self ..)
    simp only [Z10,List.map_cons,Ux,Wv,decide_true,cond_true]
    by_cases e : n = m
    · subst e
      refine ⟨(n,.agg (Vq (Zhe es env (n + 1) n))) :: K,by simp only [decide_true]; rfl,fun x hx => ?_⟩
      rcases List.mem_cons.1 hx with rfl | hx
      · rfl
      · exact h x (List.mem_cons_of_mem _ hx)
    · have h2 : (decide (Int.ofNat n = Int.ofNat m)) = false := decide_eq_false fun h => e (Int.ofNat.inj h)
      obtain ⟨K',e1,e2⟩ := Zt0 (n := n) fun x hx => h x (List.mem_cons_of_mem _ hx)
      simp only [Z10] at e1
      refine ⟨(m,d) :: K',by simp only [h2,e1]; rfl,fun x hx => ?_⟩
      rcases List.mem_cons.1 hx with rfl | hx
      · exact h1
      · exact e2 x hx
def lkT (o : Option AObj) (z : D) (n : Nat) (h : H) : O D :=
  match o with
  | some (.map es) => match Xr (.int .i64 (.ofNat n)) es with
    | some (some d) => .ok (.tup [d,.v (.bool true)]) h
    | some none => .ok (.tup [z,.v (.bool false)]) h
    | none => .fail "lookup: key"
  | _ => .fail "lookup"
theorem Zq0 {l n : Nat} {z : D} {h : H} : Z39 (E := E) z (.map l) (.int .i64 (.ofNat n)) h = lkT (hget h.mem l) z n h := by
  rw [ZO]
  simp only [Z39,Zid,U7,AAct.eval,Zab,cond_true,lkT]
  cases h.mem.get l with
  | none => rfl
  | some o => cases o <;> first | rfl | (rename_i es; simp only []; cases Xr (.int .i64 (.ofNat n)) es with
    | none => rfl
    | some o => cases o <;> rfl)
def msT (o : Option AObj) (l n : Nat) (d : D) (h : H) : O D :=
  match o with
  | some (.map es) => match Ux (.int .i64 (.ofNat n)) d es with
    | some es => .ok ZD (YF h l (.map es))
    | none => .fail "mapUpdate: key"
  | _ => .fail "mapUpdate"
theorem Z0r {l n : Nat} {d : D} {h : H} : Z37 (E := E) (.map l) (.int .i64 (.ofNat n)) d h = msT (hget h.mem l) l n d h := by
  rw [ZO]
  simp only [Z37,Zic,Za2,AAct.eval,Zab,cond_true,msT,UN]
  cases h.mem.get l with
  | none => rfl
  | some o => cases o <;> rfl
theorem Zvn {es : List XE} {env : Ev} (hw : ∀ (i : Nat) (x : XE),es[i]? = some x → ∀ j ∈ x.kids,j < i) : ∀ (f a : Nat),a < f → Zhe es env f a = Zhe es env (a + 1) a := by
  intro f
  induction f using Nat.strongRecOn with
  | ind f ih =>
    intro a ha
    obtain ⟨g,rfl⟩ : ∃ g,f = g + 1 := ⟨f - 1,by omega⟩
    simp only [Zhe]
    cases hx : es[a]? with
    | none => rfl
    | some x =>
      have hk := hw a x hx
      simp only []
      split
      · rfl
      · split
        · rfl
        · split
          · split
            · rename_i i j hij
              have hi : i < a := hk i (by rw [hij]; simp)
              have hj : j < a := hk j (by rw [hij]; simp)
              rw [ih g (by omega) i (by omega),ih g (by omega) j (by omega)]
              by_cases hg : a = 0
              · omega
              · rw [ih a (by omega) i hi,ih a (by omega) j hj]
            · rfl
          · rfl
theorem vc301 (h301 : T 301 = Zwx) {u : Bool} (hq : Q (.int .u64 (.ofNat (Z9d u))) h) : VC E T 301 [.v (.bool u)] h Q R := by
  unfold Z9d at hq
  refine Zd h301 ?_
  unfold Zf
  cases u
  all_goals
    simp only [Bool.false_eq_true,if_true,if_false] at hq
    repeat' (with_reducible (first | refine zc ?_ | simp (maxSteps := 2000000) (disch := first | exact zd | fail) only [go_sem, -Int.reduceOfNat, *] | (refine zb ?_ ?_ <;> intro _) | (show Q _ _; exact hq) | exact ze | (intro _; intros) | (refine ⟨_,by assumption, ?_⟩) | refine And.intro ?_ ?_))
theorem Zrj {op : List Nat} {a b : Nat} {u : Bool} (h : Zm1 op a b = some u) : (op = [61,61] ∧ u = decide (a = b)) ∨ (op = [60] ∧ u = decide (a < b)) ∨ (op = [60,61] ∧ u = !decide (b < a)) ∨ (op = [62] ∧ u = decide (b < a)) := by
  unfold Zm1 at h
  split at h
  · exact .inl ⟨by assumption,by cases h; rfl⟩
  split at h
  · exact .inr (.inl ⟨by assumption,by cases h; rfl⟩)
  split at h
  · exact .inr (.inr (.inl ⟨by assumption,by cases h; rfl⟩))
  split at h
  · exact .inr (.inr (.inr ⟨by assumption,by cases h; rfl⟩))
  · cases h
theorem vc340 (h301 : T 301 = Zwx) (h340 : T 340 = Z0l) {op : List Nat} {a b : Nat} {u : Bool} (hu : Zm1 op a b = some u) (hq : Q (.tup [.int .u64 (.ofNat (Z9d u)),.v (.bool true)]) h) : VC E T 340 [.str op,.int .u64 (.ofNat a),.int .u64 (.ofNat b)] h Q R := by
  rcases Zrj hu with ⟨rfl,rfl⟩ | ⟨rfl,rfl⟩ | ⟨rfl,rfl⟩ | ⟨rfl,rfl⟩
  all_goals
    clear hu
    refine Zd h340 ?_
    unfold Zf
    repeat' (with_reducible (first | refine zc ?_ | refine vc301 h301 ?_ | simp (maxSteps := 2000000) (disch := first | exact zd | fail) only [go_sem, -Int.reduceOfNat, *] | (refine zb ?_ ?_ <;> intro _) | (show Q _ _; exact hq) | exact ze | (intro _; intros) | (refine ⟨_,by assumption, ?_⟩) | refine And.intro ?_ ?_))
theorem vc319 (h301 : T 301 = Zwx) (h340 : T 340 = Z0l) (h319 : T 319 = Z3s) {op : List Nat} {a b : Nat} {u : Bool} (hu : Zm1 op a b = some u) (hq : Q (.tup [.int .u64 (.ofNat (Z9d u)),.int .i64 (.ofNat 0)]) h) : VC E T 319 [.str op,.int .u64 (.ofNat a),.int .u64 (.ofNat b)] h Q R := by
  have hu' := hu
  rcases Zrj hu with ⟨rfl,rfl⟩ | ⟨rfl,rfl⟩ | ⟨rfl,rfl⟩ | ⟨rfl,rfl⟩
  all_goals
    clear hu
    refine Zd h319 ?_
    unfold Zf
    repeat' (with_reducible (first | refine zc ?_ | refine vc340 h301 h340 hu' ?_ | simp (maxSteps := 2000000) (disch := first | exact zd | fail) only [go_sem, -Int.reduceOfNat, *] | (refine zb ?_ ?_ <;> intro _) | (show Q _ _; exact hq) | exact ze | (intro _; intros) | (refine ⟨_,by assumption, ?_⟩) | refine And.intro ?_ ?_))
end
section
variable {h : H} {Q : D → H → Prop} {R : ZM}
theorem Zcg {α : Type} {F : α → List D → Prop} {z : Nat} {d : D} {xs : List α} (hr : Zaj F z d xs) (z0 : 0 < z) {i : Nat} {x : α} (hx : xs[i]? = some x) : ∃ c r,F x c ∧ c.length = z ∧ ∀ (kk : IntKind) (h : H),Zci z d (.int kk (.ofNat i)) h = .ok (.ep (c ++ r)) h := by
  obtain ⟨cs,hw,hl,hd⟩ := hr
  have hi : i < xs.length := (List.getElem?_eq_some_iff.1 hx).1
  have hc : cs[i]? = some (cs[i]'(by rw [hw.1]; exact hi)) := List.getElem?_eq_getElem (by rw [hw.1]; exact hi)
  have h2 := hl _ (List.mem_of_getElem? hc)
  have hf := Zgs hl (i := i) (by rw [hw.1]; exact hi)
  rcases hd with ⟨rfl,_⟩ | ⟨id,rfl,_⟩
  · simp at hx
  generalize cs[i]'(by rw [hw.1]; exact hi) = c at *
  cases c with
  | nil => simp at h2; omega
  | cons a r => exact ⟨a :: r,_,hw.2 i x _ hx hc,h2,fun kk h => UT (by rw [hw.1]; exact hi) hf⟩
theorem Zm {α : Type} {F : α → List D → Prop} {z : Nat} {d : D} {xs : List α} (hr : Zaj F z d xs) : d.cells = [d] := by
  obtain ⟨cs,r,_,⟨rfl,rfl⟩ | ⟨id,rfl,hne⟩⟩ := hr <;> rfl
def Zti (env : Ev) : List D := env.flatMap fun x => [.str x.1,.int .u64 (.ofNat x.2)]
def Zs3 (env : Ev) : D :=
  match env with
  | [] => .v (.slice none 0 0)
  | x :: r => .sl 0 (r.length + 1) (Zti (x :: r))
theorem Zzj (env : Ev) : (Zti env).length = env.length * 2 := by
  induction env with
  | nil => rfl
  | cons x r ih => simp only [Zti,List.flatMap_cons,List.length_append,List.length_cons,List.length_nil] at ih ⊢; omega
theorem Zgu (env : Ev) : (Zs3 env).one = true := by cases env <;> rfl
theorem Zb4 (env : Ev) : (Zs3 env).cells = [Zs3 env] := by cases env <;> rfl
theorem Z7w (env : Ev) : Zhn env.length (Zti env) = true := by
  induction env with
  | nil => rfl
  | cons x r ih => exact ih
theorem vc86 (h86 : T 86 = YK Zdt) {env : Ev} {s : List Nat} {n : Nat} (hl : env.length ≤ 1000000) (hq : Q (Zs3 (env ++ [(s,n)])) h) : VC E T 86 [Zs3 env,.str s,.int .u64 (.ofNat n)] h Q R := by
  refine Zbr h86 ?_
  cases env with
  | nil => exact hq
  | cons x r =>
    show VO Q R (bif Nat.ble (r.length + 1) 1000000 && Zhn (r.length + 1) (Zti (x :: r)) then .ok (.sl 0 (Nat.add (r.length + 1) 1) (Zti (x :: r) ++ [.str s,.int .u64 (.ofNat n)])) h else .fail "with")
    have e := Z7w (x :: r)
    rw [List.length_cons] at e hl
    rw [e,Nat.ble_eq_true_of_le hl]
    show Q _ h
    have e2 : Zs3 (x :: r ++ [(s,n)]) = .sl 0 (Nat.add (r.length + 1) 1) (Zti (x :: r) ++ [.str s,.int .u64 (.ofNat n)]) := by
      simp [Zs3,Zti]
    rw [← e2]
    exact hq
def Zsw (s : List Nat) (env : Ev) : Nat × Bool :=
  match Zi7 s env with
  | some n => (n,true)
  | none => (0,false)
theorem Znv (s : List Nat) : ∀ (env : Ev) (z : Int) (u : Bool),Znw s (z,u) (Zti env) = some (match Zi7 s env with
    | some n => (.ofNat n,true)
    | none => (z,u))
  | [],z,u => rfl
  | (x,n) :: r,z,u => by
    show Znw s (bif UQ x s then (.ofNat n,true) else (z,u)) (Zti r) = _
    rw [Xm,Zi7]
    by_cases e : x = s
    · rw [decide_eq_true e,cond_true,Znv s r]
      simp only [e,if_true]
      cases Zi7 s r <;> rfl
    · rw [decide_eq_false e,cond_false,Znv s r]
      simp only [e,if_false]
      cases Zi7 s r <;> rfl
theorem vc300 (h300 : T 300 = YK Zeb) {env : Ev} {s : List Nat} (hl : env.length ≤ 1000000) (hq : Q (.tup [.int .u64 (.ofNat (Zsw s env).1),.v (.bool (Zsw s env).2)]) h) : VC E T 300 [Zs3 env,.str s] h Q R := by
  refine Zbr h300 ?_
  have hs := Znv s env 0 false
  have hc : Zz h 2 (Zs3 env) = some (env.length,Zti env) := by
    cases env with
    | nil => rfl
    | cons x r =>
      have e := Zzj (x :: r)
      rw [List.length_cons] at e
      show (bif Nat.beq (Zti (x :: r)).length ((r.length + 1) * 2) then some (r.length + 1,Zti (x :: r)) else none) = _
      rw [e,Nat.beq_refl]; rfl
  have hb : (Nat.ble env.length 1000000 && Nat.beq (Zti env).length (env.length * 2)) = true := by
    rw [Zzj,Nat.ble_eq_true_of_le hl,Nat.beq_refl]; rfl
  unfold Zeb
  simp only [hc,hb,cond_true,hs]
  unfold Zsw at hq
  cases hg : Zi7 s env with
  | none => rw [hg] at hq; exact hq
  | some n => rw [hg] at hq; exact hq
def XER (x : XE) (c : List D) : Prop := ∃ dk,c = [.int .i64 (.ofNat x.k),.str x.op,.int .u64 (.ofNat x.n),.str x.nm,dk] ∧ Zaj Z9m 1 dk x.kids
section
variable {es : List XE} {env : Ev} {de : D} {l lm : Nat}
abbrev Z6a (h h' : H) (lm : Nat) : Prop := ∀ x,x < h.next → x ≠ lm → hget h'.mem x = hget h.mem x
abbrev Zx6 (de : D) (env : Ev) (lm : Nat) : AObj := .cells 360 [de,Zs3 env,.map lm]
abbrev NQ (es : List XE) (env : Ev) (lm a : Nat) (h : H) (Q : D → H → Prop) : Prop := ∀ h' K',h.next ≤ h'.next → Z6a h h' lm → hget h'.mem lm = some (KV K') → KC es env K' → Q (.agg (Vq (Zhe es env (a + 1) a))) h'
def VN (E : Env) (T : Nat → ZV) (es : List XE) (env : Ev) (de : D) (a : Nat) : Prop := ∀ {l lm : Nat} {h : H} {K : List (Nat × D)} {Q : D → H → Prop} {R : ZM},(Zhe es env (a + 1) a).2 ≠ 99 → hget h.mem l = some (Zx6 de env lm) → hget h.mem lm = some (KV K) → KC es env K → l < h.next → lm < h.next → l ≠ lm → NQ es env lm a h Q → VC E T 234 [.ptr l 0,.int .i64 (.ofNat a)] h Q R
theorem VN.do {a : Nat} (hv : VN E T es env de a) {K : List (Nat × D)} (h1 : (Zhe es env (a + 1) a).2 ≠ 99) (h2 : hget h.mem l = some (Zx6 de env lm)) (h3 : hget h.mem lm = some (KV K)) (h4 : KC es env K) (h5 : l < h.next) (h6 : lm < h.next) (h7 : l ≠ lm) (hq : NQ es env lm a h Q) : VC E T 234 [.ptr l 0,.int .i64 (.ofNat a)] h Q R := hv h1 h2 h3 h4 h5 h6 h7 hq
theorem vc302 (h301 : T 301 = Zwx) (h340 : T 340 = Z0l) (h319 : T 319 = Z3s) (h302 : T 302 = Z7r) {i j n : Nat} {op nm : List Nat} {dk : D} (hk : Zaj Z9m 1 dk [i,j]) (hi : VN E T es env de i) (hj : VN E T es env de j) {u v : Nat × Nat} (hu : Zhe es env (i + 1) i = u) (hv : Zhe es env (j + 1) j = v) (u9 : u.2 ≠ 99) (v9 : u.2 = 0 → v.2 ≠ 99) {w : Bool} (ho : u.2 = 0 → v.2 = 0 → Zm1 op u.1 v.1 = some w) {K : List (Nat × D)} (h2 : hget h.mem l = some (Zx6 de env lm)) (h3 : hget h.mem lm = some (KV K)) (h4 : KC es env K) (h5 : l < h.next) (h6 : lm < h.next) (h7 : l ≠ lm)
    (hq : ∀ h' K',h.next ≤ h'.next → Z6a h h' lm → hget h'.mem lm = some (KV K') → KC es env K' → Q (.agg (Vq (if u.2 = 0 then if v.2 = 0 then (Z9d w,0) else v else u))) h') : VC E T 302 [.ptr l 0,.agg [.int .i64 (.ofNat 3),.str op,.int .u64 (.ofNat n),.str nm,dk]] h Q R := by
  obtain ⟨c0,r0,f0,z0,x0⟩ := Zcg hk (by decide) (i := 0) rfl
  obtain ⟨c1,r1,f1,z1,x1⟩ := Zcg hk (by decide) (i := 1) rfl
  unfold Z9m at f0 f1
  subst f0; subst f1
  have hdc := Zm hk
  have hdo := Zs hk
  have hi' : (Zhe es env (i + 1) i).2 ≠ 99 := by rw [hu]; exact u9
  clear z0 z1 hk
  by_cases e1 : u.2 = 0
  · have v9' := v9 e1
    have hj' : (Zhe es env (j + 1) j).2 ≠ 99 := by rw [hv]; exact v9'
    have ho' := ho e1
    clear v9 ho
    by_cases e2 : v.2 = 0
    · have ho2 := ho' e2
      simp only [e1,e2,if_true] at hq
      refine Zd h302 ?_
      unfold Zf
      repeat' (with_reducible (first | refine zc ?_ | refine hi.do (K := K) (lm := lm) hi' ?_ ?_ h4 ?_ ?_ ?_ ?_ | refine hj.do (K := K1) (lm := lm) hj' ?_ ?_ k1 ?_ ?_ ?_ ?_ | refine vc319 h301 h340 h319 ho2 ?_ | simp (maxSteps := 2000000) (disch := first | exact zd | fail) only [go_sem, -Int.reduceOfNat, *,hu,hv,e1,e2,Vq,NQ,Z6a] | (refine zb ?_ ?_ <;> intro _) | (show Q _ _; refine hq _ K1 ?_ ?_ ?_ ?_) | (rintro h1 K1 n1 f1 m1 k1) | exact ze | (intro _; intros) | (refine ⟨_,by assumption, ?_⟩) | refine And.intro ?_ ?_))
    · simp only [e1,e2,if_true,if_false] at hq
      refine Zd h302 ?_
      unfold Zf
      repeat' (with_reducible (first | refine zc ?_ | refine hi.do (K := K) (lm := lm) hi' ?_ ?_ h4 ?_ ?_ ?_ ?_ | refine hj.do (K := K1) (lm := lm) hj' ?_ ?_ k1 ?_ ?_ ?_ ?_ | simp (maxSteps := 2000000) (disch := first | exact zd | fail) only [go_sem, -Int.reduceOfNat, *,hu,hv,e1,e2,Vq,NQ,Z6a] | (refine zb ?_ ?_ <;> intro _) | (show Q _ _; refine hq _ K1 ?_ ?_ ?_ ?_) | (rintro h1 K1 n1 f1 m1 k1) | exact ze | (intro _; intros) | (refine ⟨_,by assumption, ?_⟩) | refine And.intro ?_ ?_))
  · simp only [e1,if_false] at hq
    refine Zd h302 ?_
    unfold Zf
    repeat' (with_reducible (first | refine zc ?_ | refine hi.do (K := K) (lm := lm) hi' ?_ ?_ h4 ?_ ?_ ?_ ?_ | simp (maxSteps := 2000000) (disch := first | exact zd | fail) only [go_sem, -Int.reduceOfNat, *,hu,e1,Vq,NQ,Z6a] | (refine zb ?_ ?_ <;> intro _) | (show Q _ _; refine hq _ K1 ?_ ?_ ?_ ?_) | (rintro h1 K1 n1 f1 m1 k1) | exact ze | (intro _; intros) | (refine ⟨_,by assumption, ?_⟩) | refine And.intro ?_ ?_))
end
end
section
variable {h : H} {Q : D → H → Prop} {R : ZM}
section
variable {es : List XE} {env : Ev} {de : D} {l lm : Nat}
def WFe (es : List XE) : Prop := ∀ (i : Nat) (x : XE),es[i]? = some x → ∀ j ∈ x.kids,j < i
theorem vc276 (h301 : T 301 = Zwx) (h340 : T 340 = Z0l) (h319 : T 319 = Z3s) (h302 : T 302 = Z7r) (h300 : T 300 = YK Zeb) (h276 : T 276 = q276) (hw : WFe es) (hl : env.length ≤ 1000000) {a : Nat} {x : XE} (hx : es[a]? = some x) (hs : ∀ j ∈ x.kids,VN E T es env de j) {dk : D} (hk : Zaj Z9m 1 dk x.kids) {K : List (Nat × D)} (h9 : (Zhe es env (a + 1) a).2 ≠ 99) (h2 : hget h.mem l = some (Zx6 de env lm)) (h3 : hget h.mem lm = some (KV K)) (h4 : KC es env K) (h5 : l < h.next) (h6 : lm < h.next) (h7 : l ≠ lm) (hq : NQ es env lm a h Q) : VC E T 276 [.ptr l 0,.agg [.int .i64 (.ofNat x.k),.str x.op,.int .u64 (.ofNat x.n),.str x.nm,dk]] h Q R := by
  have he1 := Zgu env
  have he2 := Zb4 env
  have hdc := Zm hk
  have hdo := Zs hk
  unfold NQ at hq
  by_cases k0 : x.k = 0
  · have e : Zhe es env (a + 1) a = (x.n,0) := by simp only [Zhe,hx,k0,if_true]
    rw [e] at hq
    simp only [Vq] at hq
    refine Zd h276 ?_
    unfold Zf
    repeat' (with_reducible (first | refine zc ?_ | simp (maxSteps := 2000000) (disch := first | exact zd | fail) only [go_sem, -Int.reduceOfNat, *,k0] | (refine zb ?_ ?_ <;> intro _) | (show Q _ _; refine hq _ K ?_ ?_ ?_ ?_) | exact ze | (intro _; intros) | (refine ⟨_,by assumption, ?_⟩) | refine And.intro ?_ ?_))
  by_cases k1 : x.k = 1
  · have e : Zhe es env (a + 1) a = (match Zi7 x.nm env with
        | some n => (n,0)
        | none => (0,11)) := by simp only [Zhe,hx,k1,if_true,Nat.reduceEqDiff,if_false]; rfl
    have hg : Zsw x.nm env = Zsw x.nm env := rfl
    cases hv : Zi7 x.nm env with
    | none =>
      rw [e,hv] at hq
      simp only [Vq] at hq
      have hg : Zsw x.nm env = (0,false) := by simp only [Zsw,hv]
      refine Zd h276 ?_
      unfold Zf
      repeat' (with_reducible (first | refine zc ?_ | refine vc300 h300 hl ?_ | simp (maxSteps := 2000000) (disch := first | exact zd | fail) only [go_sem, -Int.reduceOfNat, *,k1,hg] | (refine zb ?_ ?_ <;> intro _) | (show Q _ _; refine hq _ K ?_ ?_ ?_ ?_) | exact ze | (intro _; intros) | (refine ⟨_,by assumption, ?_⟩) | refine And.intro ?_ ?_))
    | some n =>
      rw [e,hv] at hq
      simp only [Vq] at hq
      have hg : Zsw x.nm env = (n,true) := by simp only [Zsw,hv]
      refine Zd h276 ?_
      unfold Zf
      repeat' (with_reducible (first | refine zc ?_ | refine vc300 h300 hl ?_ | simp (maxSteps := 2000000) (disch := first | exact zd | fail) only [go_sem, -Int.reduceOfNat, *,k1,hg] | (refine zb ?_ ?_ <;> intro _) | (show Q _ _; refine hq _ K ?_ ?_ ?_ ?_) | exact ze | (intro _; intros) | (refine ⟨_,by assumption, ?_⟩) | refine And.intro ?_ ?_))
  by_cases k3 : x.k = 3
  · have e0 : Zhe es env (a + 1) a = (match x.kids with
        | [i,j] => let u := Zhe es env a i
          if u.2 = 0 then (let v := Zhe es env a j
            if v.2 = 0 then opS x.op u.1 v.1 else v) else u
        | _ => (0,99)) := by simp only [Zhe,hx,k3,if_true,Nat.reduceEqDiff,if_false]; rfl
    cases hkk : x.kids with
    | nil => rw [e0,hkk] at h9; exact absurd rfl h9
    | cons i r => cases r with
      | nil => rw [e0,hkk] at h9; exact absurd rfl h9
      | cons j r => cases r with
        | cons _ _ => rw [e0,hkk] at h9; exact absurd rfl h9
        | nil =>
          have hi : i < a := hw a x hx i (by rw [hkk]; simp)
          have hj : j < a := hw a x hx j (by rw [hkk]; simp)
          rw [e0,hkk] at h9 hq
          simp only [] at h9 hq
          rw [Zvn hw a i hi,Zvn hw a j hj] at h9 hq
          have vi : VN E T es env de i := hs i (by rw [hkk]; simp)
          have vj : VN E T es env de j := hs j (by rw [hkk]; simp)
          rw [hkk] at hk
          clear hs e0
          generalize hu : Zhe es env (i + 1) i = u at h9 hq
          generalize hv : Zhe es env (j + 1) j = v at h9 hq
          have u9 : u.2 ≠ 99 := fun c => by rw [c] at h9; simp only [Nat.reduceEqDiff,if_false] at h9; exact h9 c
          have v9 : u.2 = 0 → v.2 ≠ 99 := fun u0 c => by rw [u0,c] at h9; simp only [if_true,Nat.reduceEqDiff,if_false] at h9; exact h9 c
          have ho : u.2 = 0 → v.2 = 0 → Zm1 x.op u.1 v.1 = some ((Zm1 x.op u.1 v.1).getD false) := fun u0 v0 => by
            rw [u0,v0] at h9
            simp only [if_true,opS] at h9
            cases hc : Zm1 x.op u.1 v.1 with
            | none => rw [hc] at h9; exact absurd rfl h9
            | some w => rfl
          have er : (if u.2 = 0 then if v.2 = 0 then (Z9d ((Zm1 x.op u.1 v.1).getD false),0) else v else u) = (if u.2 = 0 then if v.2 = 0 then opS x.op u.1 v.1 else v else u) := by
            split
            · split
              · rename_i u0 v0
                have := ho u0 v0
                simp only [opS]
                rw [this]; rfl
              · rfl
            · rfl
          rw [← er] at hq
          clear er h9
          have vb : ∀ {K : List (Nat × D)} {h : H} {Q : D → H → Prop} {R : ZM},hget h.mem l = some (Zx6 de env lm) → hget h.mem lm = some (KV K) → KC es env K → l < h.next → lm < h.next → (∀ h' K',h.next ≤ h'.next → Z6a h h' lm → hget h'.mem lm = some (KV K') → KC es env K' → Q (.agg (Vq (if u.2 = 0 then if v.2 = 0 then (Z9d ((Zm1 x.op u.1 v.1).getD false),0) else v else u))) h') → VC E T 302 [.ptr l 0,.agg [.int .i64 (.ofNat 3),.str x.op,.int .u64 (.ofNat x.n),.str x.nm,dk]] h Q R := fun a1 a2 a3 a4 a5 a6 => vc302 h301 h340 h319 h302 hk vi vj hu hv u9 v9 ho a1 a2 a3 a4 a5 h7 a6
          clear ho u9 v9 vi vj hu hv hi hj hkk hx hw
          generalize (if u.2 = 0 then if v.2 = 0 then (Z9d ((Zm1 x.op u.1 v.1).getD false),0) else v else u) = w at hq vb
          simp only [Vq] at hq vb
          refine Zd h276 ?_
          unfold Zf
          repeat' (with_reducible (first | refine zc ?_ | refine vb (K := K) ?_ ?_ h4 ?_ ?_ ?_ | simp (maxSteps := 2000000) (disch := first | exact zd | fail) only [go_sem, -Int.reduceOfNat, *,k3,Vq,Z6a] | (refine zb ?_ ?_ <;> intro _) | (show Q _ _; refine hq _ K1 ?_ ?_ ?_ ?_) | (rintro h1 K1 n1 f1 m1 kc1) | exact ze | (intro _; intros) | (refine ⟨_,by assumption, ?_⟩) | refine And.intro ?_ ?_))
  · exact absurd (by simp only [Zhe,hx,k0,k1,k3,if_false]) h9
theorem Z75 {n : Nat} {z d : D} {K : List (Nat × D)} {h : H} (hk : Xr (.int .i64 (.ofNat n)) (Z10 K) = some (some d)) : lkT (some (KV K)) z n h = .ok (.tup [d,.v (.bool true)]) h := by
  simp only [lkT,KV,hk]
theorem Z4g {n : Nat} {z : D} {K : List (Nat × D)} {h : H} (hk : Xr (.int .i64 (.ofNat n)) (Z10 K) = some none) : lkT (some (KV K)) z n h = .ok (.tup [z,.v (.bool false)]) h := by
  simp only [lkT,KV,hk]
theorem Z72 {n l : Nat} {d : D} {K K' : List (Nat × D)} (hk : Ux (.int .i64 (.ofNat n)) d (Z10 K) = some (Z10 K')) {h : H} : msT (some (KV K)) l n d h = .ok ZD (YF h l (KV K')) := by
  simp only [msT,KV,hk]
theorem vc234 (h301 : T 301 = Zwx) (h340 : T 340 = Z0l) (h319 : T 319 = Z3s) (h302 : T 302 = Z7r) (h300 : T 300 = YK Zeb) (h276 : T 276 = q276) (h234 : T 234 = q234) (hw : WFe es) (hl : env.length ≤ 1000000) (hE : Zaj XER 5 de es) : ∀ a : Nat,VN E T es env de a := by
  intro a
  induction a using Nat.strongRecOn with
  | ind a ih =>
  intro l lm h K Q R h9 h2 h3 h4 h5 h6 h7 hq
  have he1 := Zgu env
  have he2 := Zb4 env
  cases hx : es[a]? with
  | none => exact absurd (by simp only [Zhe,hx]) h9
  | some x =>
  obtain ⟨c,r,hc,hz,hix⟩ := Zcg hE (by decide) hx
  obtain ⟨dk,rfl,hk⟩ := hc
  have hdc := Zm hk
  have hdo := Zs hk
  have hdd := Zm hE
  have hde := Zs hE
  have vf : ∀ {K : List (Nat × D)} {h : H} {Q : D → H → Prop} {R : ZM},hget h.mem l = some (Zx6 de env lm) → hget h.mem lm = some (KV K) → KC es env K → l < h.next → lm < h.next → NQ es env lm a h Q → VC E T 276 [.ptr l 0,.agg [.int .i64 (.ofNat x.k),.str x.op,.int .u64 (.ofNat x.n),.str x.nm,dk]] h Q R := fun a1 a2 a3 a4 a5 a6 => vc276 h301 h340 h319 h302 h300 h276 hw hl hx (fun j hj => ih j (hw a x hx j hj)) hk h9 a1 a2 a3 a4 a5 h7 a6
  clear ih hx hw hz hE hk
  have hset := fun (K : List (Nat × D)) (hK : KC es env K) => Zt0 (n := a) hK
  rcases Zrd (n := a) h4 with hm | hm
  · unfold NQ at hq vf
    generalize Zhe es env (a + 1) a = w at *
    simp only [Vq] at hq vf hset
    refine Zd h234 ?_
    unfold Zf
    repeat' (with_reducible (first | refine zc ?_ | refine vf (K := K) ?_ ?_ h4 ?_ ?_ ?_ | simp (maxSteps := 2000000) (disch := first | exact zd | fail) only [go_sem, -Int.reduceOfNat, *,Vq,Z6a,Zq0,Z4g,Z0r] | (refine zb ?_ ?_ <;> intro _) | (show Q _ _; refine hq _ K2 ?_ ?_ ?_ ?_) | (rintro h1 K1 n1 f1 m1 kc1; obtain ⟨K2,s2,kc2⟩ := hset K1 kc1; have s3 := fun l h => Z72 (l := l) (h := h) s2; clear s2) | exact ze | (intro _; intros) | (refine ⟨_,by assumption, ?_⟩) | refine And.intro ?_ ?_))
  · clear vf hset
    unfold NQ at hq
    generalize Zhe es env (a + 1) a = w at *
    have lkh := fun z (h : H) => Z75 (z := z) (h := h) hm
    simp only [Vq] at hq hm lkh
    refine Zd h234 ?_
    unfold Zf
    repeat' (with_reducible (first | refine zc ?_ | simp (maxSteps := 2000000) (disch := first | exact zd | fail) only [go_sem, -Int.reduceOfNat, *,Vq,Z6a,Zq0] | (refine zb ?_ ?_ <;> intro _) | (show Q _ _; refine hq _ K ?_ ?_ ?_ ?_) | exact ze | (intro _; intros) | (refine ⟨_,by assumption, ?_⟩) | refine And.intro ?_ ?_))
end
end
section
variable {h : H} {Q : D → H → Prop} {R : ZM}
def q125 : ZV := Zbg Zf (fun t h => .ok (Gt 4 t) h)
 (Z0 (Z1<|fo (Zh (kD (.int .u64 (.ofNat 0)))) (St 4)<|Z2)
 (Z0 (Xf<|Ze (Zh (Gt 0)) (St 8)<|Ze (u1 Z4 (Gt 8)) (St 9)<|Ze (u1 (Zt 0) (Gt 9)) (St 10)<|Xw 3 [] 1 (Gt 10) (Zl (Gt 10)) (St 11)<|Ze (u1 Z4 (Gt 11)) (St 12)<|Ze (u1 (Zt 0) (Gt 12)) (St 13)<|Xw 6 [] 1 (Gt 13) (Zl (Gt 13)) (St 14)<|Ze (Zh (Gt 1)) (St 15)<|Ze (Zh (Gt 0)) (St 16)<|Ze (u1 Z4 (Gt 16)) (St 17)<|Ze (u1 (Zt 1) (Gt 17)) (St 18)<|Xw 11 [0,1,2,3,4,5,6,7] 1 (Gt 18) (Zl (Gt 18)) (St 19)<|Zju 12 [] (Zw 182 [(Gt 14),(Gt 15),(Gt 19)]) (St 20)<|Ze (Zh (Gt 20)) (St 7)<|Ze (u1 (Xe 0) (Gt 7)) (St 21)<|Ze (u1 (Xe 1) (Gt 7)) (St 22)<|Ze (Zh (Gt 21)) (St 5)<|Ze (Zh (Gt 22)) (St 6)<|Xg)
 (Z0 (Z0 (Z1<|mM 6 23<|fo (mR 26 23 0) (St 24)<|Z2)
 (Zg (Gt 24) (Z1<|mM 0 25<|mN 25 26<|mF 0 26 27<|mL 27 28<|mM 6 29<|mK 57 [(Gt 28),(Gt 29)] 30<|Z2) Zx))
 (Z0 (Z1<|mM 5 31<|mM 31 4<|Z2)
 Zv))))
structure ET (E : Env) (T : Nat → ZV) (es : List XE) (de : D) : Prop where
  h301 : T 301 = Zwx
  h340 : T 340 = Z0l
  h319 : T 319 = Z3s
  h302 : T 302 = Z7r
  h300 : T 300 = YK Zeb
  h276 : T 276 = q276
  h234 : T 234 = q234
  h233 : T 233 = YK (Zht de es.length)
  h182 : T 182 = q182
  wf : WFe es
  row : Zaj XER 5 de es
  same : D.same de de = true
  nl : ∀ cs h ox oy,Zha E YG .eql 23 ox oy (.ep cs) (.v (.pointer none)) h = .ok (.v (.bool false)) h
theorem Zt9 : ∀ env : Ev,ZR (Zti env) (Zti env) = true
  | [] => rfl
  | (s,n) :: r => by
    show ZR (.str s :: .int .u64 (.ofNat n) :: Zti r) (.str s :: .int .u64 (.ofNat n) :: Zti r) = true
    rw [ZL,ZL,XM,XN,Zt9 r]; rfl
theorem Z46 (env : Ev) : D.same (Zs3 env) (Zs3 env) = true := by
  cases env with
  | nil => rfl
  | cons x r => simp only [Zs3,D.same,Nat.beq_refl,Zt9,Bool.and_self]
section
variable {es : List XE} {env : Ev} {dc ds de dt : D}
theorem vc233 (hT : ET E T es de) {a : Nat} (ha : a < es.length) (hq : Q (.v (.bool true)) h) : VC E T 233 [de,.int .i64 (.ofNat a)] h Q R := Zbr hT.h233 (by
  show VO Q R (bif D.same de de && Nat.blt a es.length then .ok (.v (.bool true)) h else .fail "may")
  have e : Nat.blt a es.length = true := by rw [Nat.blt_eq]; exact ha
  rw [hT.same,e]
  exact hq)
theorem vc182 (hT : ET E T es de) (hl : env.length ≤ 1000000) (hel : es.length ≤ 1000000) {a : Nat} {u : Nat × Nat} (hu : Zhe es env (a + 1) a = u) (h9 : u.2 ≠ 99) (hq : ∀ h',h.next ≤ h'.next → (∀ l,l < h.next → hget h'.mem l = hget h.mem l) → Q (.tup (Vq u)) h') : VC E T 182 [.ep [dc,ds,de,dt],.int .i64 (.ofNat a),Zs3 env] h Q R := by
  have ha : a < es.length := by
    cases hx : es[a]? with
    | none => exact absurd (by rw [← hu]; simp only [Zhe,hx]) h9
    | some x => exact (List.getElem?_eq_some_iff.1 hx).1
  have he1 := Zgu env
  have he2 := Zb4 env
  have hdd := Zm hT.row
  have hde := Zs hT.row
  have hln := hT.row.len
  have hnl := hT.nl
  have hnode : VN E T es env de a := vc234 hT.h301 hT.h340 hT.h319 hT.h302 hT.h300 hT.h276 hT.h234 hT.wf hl hT.row a
  have hnd : ∀ {l lm : Nat} {h : H} {Q : D → H → Prop} {R : ZM},hget h.mem l = some (Zx6 de env lm) → hget h.mem lm = some (.map []) → l < h.next → lm < h.next → l ≠ lm → (∀ h',h.next ≤ h'.next → Z6a h h' lm → Q (.agg (Vq u)) h') → VC E T 234 [.ptr l 0,.int .i64 (.ofNat a)] h Q R := fun a1 a2 a3 a4 a5 a6 => hnode (K := []) (by rw [hu]; exact h9) a1 a2 KC_nil a3 a4 a5 (fun h' K' b1 b2 b3 b4 => by rw [hu]; exact a6 h' b1 b2)
  simp only [Vq] at hq hnd
  clear hnode hu
  refine Zd hT.h182 ?_
  unfold Zf
  repeat' (with_reducible (first | refine zc ?_ | refine vc233 hT ha ?_ | refine hnd (lm := h.next) ?_ ?_ ?_ ?_ ?_ ?_ | simp (maxSteps := 2000000) (disch := first | exact zd | fail) only [go_sem, -Int.reduceOfNat, *,Z6a] | (refine zb ?_ ?_ <;> intro _) | (show Q _ _; refine hq _ ?_ ?_) | (rintro h1 n1 f1) | exact ze | (intro _; intros) | (refine ⟨_,by assumption, ?_⟩) | refine And.intro ?_ ?_))
variable {inp : List Nat} {pr ps p e0 n : Nat}
abbrev Zhf (pr : Nat) (env : Ev) : AObj := .cells 190 [.ptr pr 0,Zs3 env]
theorem vc125 (hT : ET E T es de) (h57 : T 57 = q57) (h125 : T 125 = q125) (hl : env.length ≤ 1000000) (hel : es.length ≤ 1000000) {a : Nat} {u : Nat × Nat} (hu : Zhe es env (a + 1) a = u) (h9 : u.2 ≠ 99) (hr : hget h.mem pr = some (RC (.ep [dc,ds,de,dt]) inp p e0 n)) (hs : hget h.mem ps = some (Zhf pr env)) (n1 : pr < h.next) (n2 : ps < h.next)
    (h1 : u.2 = 0 → ∀ h',h.next ≤ h'.next → (∀ l,l < h.next → hget h'.mem l = hget h.mem l) → Q (.int .u64 (.ofNat u.1)) h') (h2 : u.2 ≠ 0 → ∀ h',h.next ≤ h'.next → (∀ l,l < h.next → hget h'.mem l = hget h.mem l) → R (Zhb p u.2) h') : VC E T 125 [.ptr ps 0,.int .i64 (.ofNat a)] h Q R := by
  have hev : ∀ {h : H} {Q : D → H → Prop} {R : ZM},(∀ h',h.next ≤ h'.next → (∀ l,l < h.next → hget h'.mem l = hget h.mem l) → Q (.tup (Vq u)) h') → VC E T 182 [.ep [dc,ds,de,dt],.int .i64 (.ofNat a),Zs3 env] h Q R := fun hq => vc182 hT hl hel hu h9 hq
  have he1 := Zgu env
  have he2 := Zb4 env
  have hsm : D.same (Zs3 env) (Zs3 env) = true := Z46 env
  simp only [Vq] at hev
  clear hu h9 hl hel hT
  by_cases e : u.2 = 0
  · have hq := h1 e
    clear h1 h2
    refine Zd h125 ?_
    unfold Zf
    repeat' (with_reducible (first | refine zc ?_ | refine hev ?_ | refine Zrx h57 (fp := .ep [dc,ds,de,dt]) (inp := inp) (p := p) (e0 := e0) (n := n) ?_ ?_ | simp (maxSteps := 2000000) (disch := first | exact zd | fail) only [go_sem, -Int.reduceOfNat, *,e] | (refine zb ?_ ?_ <;> intro _) | (show Q _ _; refine hq _ ?_ ?_) | (rintro h1 n1 f1) | exact ze | (intro _; intros) | (refine ⟨_,by assumption, ?_⟩) | refine And.intro ?_ ?_))
  · have hq := h2 e
    clear h1 h2
    refine Zd h125 ?_
    unfold Zf
    repeat' (with_reducible (first | refine zc ?_ | refine hev ?_ | refine Zrx h57 (fp := .ep [dc,ds,de,dt]) (inp := inp) (p := p) (e0 := e0) (n := n) ?_ ?_ | simp (maxSteps := 2000000) (disch := first | exact zd | fail) only [go_sem, -Int.reduceOfNat, *,e] | (refine zb ?_ ?_ <;> intro _) | (show R _ _; refine hq _ ?_ ?_) | (refine hq _ ?_ ?_) | (rintro h1 n1 f1) | exact ze | (intro _; intros) | (refine ⟨_,by assumption, ?_⟩) | refine And.intro ?_ ?_))
end
end
section
variable {h : H} {Q : D → H → Prop} {R : ZM}
section
variable {fp : D} {inp : List Nat} {pr p e0 n : Nat}
abbrev FRr (h h' : H) (pr : Nat) : Prop := ∀ x,x < h.next → x ≠ pr → hget h'.mem x = hget h.mem x
theorem vc121 (h57 : T 57 = q57) (h172 : T 172 = q172) (h159 : T 159 = Zjg) (h111 : T 111 = Zj9) (h78 : T 78 = Z0k) (h227 : T 227 = YK Zdu) (h171 : T 171 = q171) (h121 : T 121 = q121) {k : Nat} {lit : Bool} (hk : Zax k) (hb : ∀ b ∈ inp,b < 256) (hp : p ≤ e0) (he : e0 ≤ inp.length) (hl : inp.length ≤ 1048576) (hr : hget h.mem pr = some (RC fp inp p e0 n)) (np : pr < h.next) (ho : fp.one = true) (h1 : e0 - p < k → R (Zhb p 20) h) (h2 : k ≤ e0 - p → ∀ h',h.next ≤ h'.next → FRr h h' pr → hget h'.mem pr = some (RC fp inp (p + k) e0 n) → Q (.int .u64 (.ofNat (Zmy lit (sub inp p k)))) h') : VC E T 121 [.ptr pr 0,.int .i64 (.ofNat k),.v (.bool lit)] h Q R := by
  have k8 : k ≤ 8 := by unfold Zax at hk; omega
  have hg : k ≤ e0 - p → ∀ {h : H} {Q : D → H → Prop} {R : ZM},(∀ h',h.next ≤ h'.next → (∀ l,l < h.next → hget h'.mem l = hget h.mem l) → Q (.tup [.int .u64 (.ofNat (Zmy lit (sub inp p k))),.int .i64 (.ofNat 0)]) h') → VC E T 171 [.str (sub inp p k),.int .i64 (.ofNat 0),.int .i64 (.ofNat k),.v (.bool lit)] h Q R := fun hle h Q R hq => by
    have hsl : (sub inp p k).length = k := by unfold sub; rw [List.length_take,List.length_drop]; omega
    have hbs : ∀ b ∈ sub inp p k,b < 256 := fun b hx => hb b (List.mem_of_mem_drop (List.mem_of_mem_take hx))
    have := vc171 (E := E) (T := T) (R := R) (h := h) (Q := Q) h159 h111 h78 h227 h171 (s := sub inp p k) (lit := lit) (by rw [hsl]; exact hk) hbs hq
    rw [hsl] at this
    exact this
  clear hb
  refine Zd h121 ?_
  unfold Zf
  repeat' (with_reducible (first | refine zc ?_ | refine vc172 h57 h172 (fp := fp) (inp := inp) (p := p) (e0 := e0) (n := n) hp he hl ?_ ho ?_ ?_ | refine hg (by assumption) ?_ | simp (maxSteps := 2000000) (disch := first | exact zd | fail) only [go_sem, -Int.reduceOfNat, *,Wj,FRr] | (refine zb ?_ ?_ <;> intro _) | (exact h1 (by assumption)) | (show Q _ _; refine h2 (by assumption) _ ?_ ?_ ?_) | (intro hle) | (rintro h1 n1 f1) | exact ze | (intro _; intros) | (refine ⟨_,by assumption, ?_⟩) | refine And.intro ?_ ?_))
end
end
end Run
end
end Go.Abs
