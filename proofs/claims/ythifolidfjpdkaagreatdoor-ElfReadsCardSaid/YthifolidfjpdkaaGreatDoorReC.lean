/- Expressions: operators: walks of the program. -/
import Derived.Test.YthifolidfjpdkaaGreatDoorRdS
import Derived.Test.YthifolidfjpdkaaGreatDoorReA
import Derived.Test.YthifolidfjpdkaaGreatDoorReB
set_option linter.unusedVariables false
set_option linter.unusedSimpArgs false
namespace Go.Abs
noncomputable section
namespace Run
variable {E : Env} {T : Nat → Yd}
set_option maxHeartbeats 4000000
set_option maxRecDepth 100000
attribute [local go_sem] Zdv UJ Zdx UH UQ UG UM Zdu UL UK Zdt Wa US W7 UN V1 W9 YL V3 Zbi UU V0 UO UR UT V4 X8 V7 UP W8 W6 UI V5 V6 Zdz Zd0 UW Zaf Zab Wc Wb YM Zaa UZ Zdy Va Zai Zac Zag Vd Zad UX Zae UV V9 UY Vb Zah V8 Vc Zd1 Zak Zd5 Zaj Zd2 Zi0 Zi1 Ziy Ziz Zd3 Zd4 Za1 Za0 Za2 Za7 Za6 Za8 Zek Zej VA VB Vz Zd9 Vx Vy Vw Vt Zaw Wk Vq Vr Wm Wn Zaz Zay Zax Wj Xo W1 Zao Zeb Zeg Zpv Xr Xq Vo Zau Wo Vp Yu Y5 Xt YS WK patch YQ YR Xn Xm Wy Wx X1 X2 W5 VG Wu Xu YV Xp Wr XP Xs YO Yf YT mem_cons Zei Zea Xk Option.map_some Option.map_none Vv Wp Ws Wq Zav Vu Wl Vs YP X4 XA Xv XB Wz Xw Xz Xx YW Xy Vl Wh Vn Vi Zas Vj Vm Vk Wi Wg YD VT WH Zfx Zcy Zc3 Zb3 Zeo Zsi Xg XU VH WQ YN Xl YU Yv Yn X7 ZZ X5 List.drop_succ_cons List.drop_zero List.drop_nil List.take_succ_cons List.take_zero List.take_nil List.length_cons List.length_nil List.length_append List.cons_append List.nil_append Nat.reduceAdd Nat.reduceEqDiff Nat.reduceLeDiff Nat.reduceLT List.cons.injEq reduceCtorEq eq_self not_true_eq_false not_false_eq_true and_false false_and true_or or_true decide_true decide_false Bool.and_self Bool.and_true Bool.true_and Bool.true_or Bool.or_true Bool.false_or Bool.or_false Bool.false_and Bool.and_false Bool.not_true Bool.not_false cond_true cond_false true_and and_true Zex Zef Zen reduceIte Nat.add_zero Nat.zero_add Nat.add_sub_cancel Nat.reduceMul Nat.reduceSub Nat.reduceBEq List.map_cons List.map_nil Z1 Z0 Yw ZG Zr Zv Wd Zd6 XQ Yo Y0 Wf We XH XG and_assoc exists_and_left D.str.injEq Nat.lt_irrefl Nat.not_lt_zero true_implies false_implies implies_true forall_const ge_iff_le gt_iff_lt Nat.sub_zero List.append_assoc Option.some.injEq AObj.cells.injEq D.int.injEq D.ptr.injEq Int.ofNat.injEq exists_eq_left' D.v.injEq Value.bool.injEq D.agg.injEq Nat.mul_one
section
variable {h : H} {Q : D → H → Prop} {R : Y1}
def q182 : Yd := Uz Zs (fun t h => .ok (.tup [(Gt 6) t, (Gt 7) t]) h)
 (Z2 (Z7<|fo (ZC (kD (.int .u64 (.ofNat 0)))) (St 6)<|fo (ZC (kI 0)) (St 7)<|Z8)
 (Z2 (ZM 0 (Z2 (Z7<|mM 0 10<|fo (Zq YD .eql 23 (.tmp 10) (.const (.pointer none)) (Gt 10) (kD (.v (.pointer none)))) (St 11)<|mM 11 9<|Z8)
 (Zt (Gt 9) (Z2 (Z7<|fo (ZC (kD (.int .u64 (.ofNat 0)))) (St 6)<|fo (ZC (kI 1)) (St 7)<|Z8)
 ZF) (Z2 (Z7 <| mM 1 13 <| fo (Zq WH .lss 3 (.tmp 13) (.const (.int .i64 (.ofNat 0))) (Gt 13) (kI 0)) (St 14) <| mM 14 15 <| YG (Gt 15) false (ZC (Gt 1)) (St 16) <| YG (Gt 15) false (ZC (Gt 0)) (St 17) <| YG (Gt 15) false (u1 Zo (Gt 17)) (St 18) <| YG (Gt 15) false (u1 (ZL 2) (Gt 18)) (St 19) <| YG (Gt 15) false (ZO (Gt 19)) (St 20) <| YG (Gt 15) false (u1 YI (Gt 20)) (St 21) <| YG (Gt 15) false (Zq Zc3 .geq 3 (.tmp 16) (.tmp 21) (Gt 16) (Gt 21)) (St 22) <| fo (Xa (Gt 15) (kD (.v (.bool true))) (Gt 22)) (St 23) <| mM 23 24 <| YG (Gt 24) false (ZC (Gt 0)) (St 25) <| YG (Gt 24) false (u1 Zo (Gt 25)) (St 26) <| YG (Gt 24) false (u1 (ZL 2) (Gt 26)) (St 27) <| YG (Gt 24) false (ZO (Gt 27)) (St 28) <| YG (Gt 24) false (ZC (Gt 1)) (St 29) <| YG (Gt 24) false (ZW 233 [(Gt 28), (Gt 29)]) (St 30) <| YG (Gt 24) false (u1 (Zft .not) (Gt 30)) (St 31) <| fo (Xa (Gt 24) (kD (.v (.bool true))) (Gt 31)) (St 32) <| mM 32 12 <| Z8)
 (Zt (Gt 12) (Z2 (Z7<|fo (ZC (kD (.int .u64 (.ofNat 0)))) (St 6)<|fo (ZC (kI 2)) (St 7)<|Z8)
 ZF) ZJ)))))
 (Z2 (Z7<|mM 0 33<|mN 33 34<|mF 2 34 35<|mL 35 36<|mM 2 37<|fo (Zm1) (St 38)<|fo (YA [(.v (.slice none 0 0)),(.v (.slice none 0 0)),(.v (.map none))] [(0,1,(Gt 36)),(1,1,(Gt 37)),(2,1,(Gt 38))]) (St 39)<|fo (UA 360 (Gt 39)) (St 40)<|mM 1 41<|mK 234 [(Gt 40),(Gt 41)] 42<|fo (ZN 356 [(.int .u64 (.ofNat 0)),(.int .i64 (.ofNat 0))]) (St 8)<|fo (ZV 2 (Gt 8) (Gt 42)) p0<|Z8)
 (Z2 (YY<|Zu (u1 (ZL 0) (Gt 8)) (St 43)<|Xj 1 [] 1 (Gt 43) (ZO (Gt 43)) (St 44)<|Zu (u1 (ZL 1) (Gt 8)) (St 45)<|Xj 3 [0,1] 1 (Gt 45) (ZO (Gt 45)) (St 46)<|Zu (ZC (Gt 44)) (St 6)<|Zu (ZC (Gt 46)) (St 7)<|YZ)
 ZF))))
def q234 : Yd := Uz Zs (fun t h => VU ⟨[.cN 4 2], .skip⟩ (act t) h)
 (Z2 (Z7<|fo (ZN 356 [(.int .u64 (.ofNat 0)),(.int .i64 (.ofNat 0))]) (St 4)<|Z8)
 (Z2 (Z2 (Z7<|mM 0 9<|mN 9 10<|mF 2 10 11<|mL 11 12<|mM 1 13<|fo (u2 (fun x k => Zdk 0 (.agg [(.int .u64 (.ofNat 0)),(.int .i64 (.ofNat 0))]) x k true) (Gt 12) (Gt 13)) (St 14)<|mM 14 8<|mE 0 8 15<|mE 1 8 16<|fo (ZN 356 [(.int .u64 (.ofNat 0)),(.int .i64 (.ofNat 0))]) (St 5)<|fo (ZV 2 (Gt 5) (Gt 15)) p0<|mM 16 6<|Z8)
 (Z2 (Z7<|mM 6 17<|Z8)
 (Zt (Gt 17) (Z2 (Z7<|fo (Yy 2 (Gt 5)) (St 18)<|fo (ZV 2 (Gt 4) (Gt 18)) p0<|Z8)
 ZF) ZJ)))
 (Z2 (Z7<|mM 0 19<|mM 0 20<|mN 20 21<|mF 0 21 22<|mL 22 23<|mM 1 24<|fo (u2 (Ym 5) (Gt 23) (Gt 24)) (St 25)<|fo (Yy 5 (Gt 25)) (St 26)<|mK 276 [(Gt 19),(Gt 26)] 27<|fo (ZN 356 [(.int .u64 (.ofNat 0)),(.int .i64 (.ofNat 0))]) (St 7)<|fo (ZV 2 (Gt 7) (Gt 27)) p0<|Z8)
 (Z2 (YY<|Zu (ZC (Gt 0)) (St 28)<|Zu (u1 Zo (Gt 28)) (St 29)<|Zu (u1 (ZL 2) (Gt 29)) (St 30)<|Xj 3 [] 1 (Gt 30) (ZO (Gt 30)) (St 31)<|Zu (ZC (Gt 1)) (St 32)<|Xj 5 [0,1,2,3,4] 2 (Gt 7) (Yy 2 (Gt 7)) (St 33)<|Zfw 6 [] (u3 (Ze3 0) (Gt 31) (Gt 32) (Gt 33)) p0<|YZ)
 (Z2 (Z7<|fo (Yy 2 (Gt 7)) (St 34)<|fo (ZV 2 (Gt 4) (Gt 34)) p0<|Z8)
 ZF)))))
def q276 : Yd := Uz Zs (fun t h => VU ⟨[.cN 4 2], .skip⟩ (act t) h)
 (Z2 (Z7<|fo (UA 337 (Gt 1)) (St 3)<|fo (ZN 356 [(.int .u64 (.ofNat 0)),(.int .i64 (.ofNat 0))]) (St 4)<|Z8)
 (Z2 (Z2 (Z7<|mF 0 3 8<|mL 8 9<|Z8)
 (ZM 0 (Z2 (Z7<|fo (mQ 335 9 1) (St 11)<|mM 11 10<|Z8)
 (Zt (Gt 10) (Z2 (YY<|Zu (ZC (Gt 0)) (St 13)<|Zu (u1 Zo (Gt 13)) (St 14)<|Zu (u1 (ZL 1) (Gt 14)) (St 15)<|Xj 3 [] 1 (Gt 15) (ZO (Gt 15)) (St 16)<|Zu (u1 (ZL 3) (Gt 3)) (St 17)<|Xj 5 [0,1,2,3] 1 (Gt 17) (ZO (Gt 17)) (St 18)<|Zim 6 [] (ZW 300 [(Gt 16),(Gt 18)]) (St 19)<|Zu (ZC (Gt 19)) (St 12)<|Zu (u1 (Zc9 0) (Gt 12)) (St 20)<|Zu (u1 (Zc9 1) (Gt 12)) (St 21)<|Zu (ZC (Gt 20)) (St 5)<|Zu (ZC (Gt 21)) (St 6)<|YZ)
 (Z2 (Z2 (Z7<|mM 6 22<|fo (u1 (Zft .not) (Gt 22)) (St 23)<|Z8)
 (Zt (Gt 23) (Z2 (Z7<|fo (YA [(.int .u64 (.ofNat 0)),(.int .i64 (.ofNat 0))] [(0,1,(kD (.int .u64 (.ofNat 0)))),(1,1,(kI 11))]) (St 24)<|fo (ZV 2 (Gt 4) (Gt 24)) p0<|Z8)
 ZF) ZJ))
 (Z2 (Z7<|mM 5 25<|fo (YA [(.int .u64 (.ofNat 0)),(.int .i64 (.ofNat 0))] [(0,1,(Gt 25)),(1,1,(kI 0))]) (St 26)<|fo (ZV 2 (Gt 4) (Gt 26)) p0<|Z8)
 ZF))) (Z2 (Z7 <| fo (mQ 335 9 2) (St 28) <| mM 28 27 <| Z8)
 (Zt (Gt 27) (Z2 (Z7<|mM 0 29<|mF 4 3 30<|mL 30 31<|fo (u2 (Ym 1) (Gt 31) (kI 0)) (St 32)<|mL 32 33<|mK 234 [(Gt 29),(Gt 33)] 34<|fo (ZN 356 [(.int .u64 (.ofNat 0)),(.int .i64 (.ofNat 0))]) (St 7)<|fo (ZV 2 (Gt 7) (Gt 34)) p0<|Z8)
 (Z2 (Z2 (Z7<|mF 1 7 35<|mL 35 36<|fo (mR 26 36 0) (St 37)<|Z8)
 (Zt (Gt 37) (Z2 (Z7<|fo (Yy 2 (Gt 7)) (St 38)<|fo (ZV 2 (Gt 4) (Gt 38)) p0<|Z8)
 ZF) ZJ))
 (Z2 (Z7<|mF 0 7 39<|mL 39 40<|fo (Zq YD .eql 36 (.tmp 40) (.const (.int .u64 (.ofNat 0))) (Gt 40) (kD (.int .u64 (.ofNat 0)))) (St 41)<|mK 301 [(Gt 41)] 42<|fo (YA [(.int .u64 (.ofNat 0)),(.int .i64 (.ofNat 0))] [(0,1,(Gt 42)),(1,1,(kI 0))]) (St 43)<|fo (ZV 2 (Gt 4) (Gt 43)) p0<|Z8)
 ZF))) (Z2 (Z7 <| fo (mQ 335 9 3) (St 45) <| mM 45 44 <| Z8)
 (Zt (Gt 44) (Z2 (Z7<|mM 0 46<|fo (Yy 5 (Gt 3)) (St 47)<|mK 302 [(Gt 46),(Gt 47)] 48<|fo (ZV 2 (Gt 4) (Gt 48)) p0<|Z8)
 ZF) ZJ))))))))
 (Z2 (Z7<|mF 2 3 49<|mL 49 50<|fo (YA [(.int .u64 (.ofNat 0)),(.int .i64 (.ofNat 0))] [(0,1,(Gt 50)),(1,1,(kI 0))]) (St 51)<|fo (ZV 2 (Gt 4) (Gt 51)) p0<|Z8)
 ZF)))
def Z20 : Yd := Uz Zs (fun t h => VU ⟨[.cN 4 2], .skip⟩ (act t) h)
 (Z2 (Z7<|fo (UA 337 (Gt 1)) (St 3)<|fo (ZN 356 [(.int .u64 (.ofNat 0)),(.int .i64 (.ofNat 0))]) (St 4)<|Z8)
 (Z2 (Z7<|mM 0 9<|mF 4 3 10<|mL 10 11<|fo (u2 (Ym 1) (Gt 11) (kI 0)) (St 12)<|mL 12 13<|mK 234 [(Gt 9),(Gt 13)] 14<|fo (ZN 356 [(.int .u64 (.ofNat 0)),(.int .i64 (.ofNat 0))]) (St 5)<|fo (ZV 2 (Gt 5) (Gt 14)) p0<|Z8)
 (Z2 (Z2 (Z7<|mF 1 5 15<|mL 15 16<|fo (mR 26 16 0) (St 17)<|Z8)
 (Zt (Gt 17) (Z2 (Z7<|fo (Yy 2 (Gt 5)) (St 18)<|fo (ZV 2 (Gt 4) (Gt 18)) p0<|Z8)
 ZF) ZJ))
 (Z2 (Z7<|mM 0 19<|mF 4 3 20<|mL 20 21<|fo (u2 (Ym 1) (Gt 21) (kI 1)) (St 22)<|mL 22 23<|mK 234 [(Gt 19),(Gt 23)] 24<|fo (ZN 356 [(.int .u64 (.ofNat 0)),(.int .i64 (.ofNat 0))]) (St 6)<|fo (ZV 2 (Gt 6) (Gt 24)) p0<|Z8)
 (Z2 (Z2 (Z7<|mF 1 6 25<|mL 25 26<|fo (mR 26 26 0) (St 27)<|Z8)
 (Zt (Gt 27) (Z2 (Z7<|fo (Yy 2 (Gt 6)) (St 28)<|fo (ZV 2 (Gt 4) (Gt 28)) p0<|Z8)
 ZF) ZJ))
 (Z2 (Z7<|mF 1 3 30<|mL 30 31<|mF 0 5 32<|mL 32 33<|mF 0 6 34<|mL 34 35<|mK 319 [(Gt 31),(Gt 33),(Gt 35)] 36<|mM 36 29<|mE 0 29 37<|mE 1 29 38<|mM 37 7<|mM 38 8<|Z8)
 (Z2 (Z7<|mM 7 39<|mM 8 40<|fo (YA [(.int .u64 (.ofNat 0)),(.int .i64 (.ofNat 0))] [(0,1,(Gt 39)),(1,1,(Gt 40))]) (St 41)<|fo (ZV 2 (Gt 4) (Gt 41)) p0<|Z8)
 ZF)))))))
def Zzs : Yd := Uz Zs (fun t h => .ok (.tup [(Gt 6) t, (Gt 7) t]) h)
 (Z2 (Z7<|fo (ZC (kD (.int .u64 (.ofNat 0)))) (St 6)<|fo (ZC (kI 0)) (St 7)<|Z8)
 (Z2 (Z2 (Z7<|mM 0 10<|Z8)
 (ZM 0 (Z2 (Z7<|fo (Zq YD .eql 9 (.tmp 10) (.const (.string ⟨#[43]⟩)) (Gt 10) (kS [43])) (St 12)<|mM 12 11<|Z8)
 (Zt (Gt 11) (Z2 (Z7<|mM 1 13<|mM 2 14<|mK 188 [(Gt 13),(Gt 14)] 15<|mE 0 15 16<|mE 1 15 17<|mM 16 6<|mM 17 7<|Z8)
 ZF) (Z2 (Z7 <| fo (Zq YD .eql 9 (.tmp 10) (.const (.string ⟨#[45]⟩)) (Gt 10) (kS [45])) (St 19) <| mM 19 18 <| Z8)
 (Zt (Gt 18) (Z2 (Z7<|mM 1 20<|mM 2 21<|mK 335 [(Gt 20),(Gt 21)] 22<|mE 0 22 23<|mE 1 22 24<|mM 23 6<|mM 24 7<|Z8)
 ZF) (Z2 (Z7 <| fo (Zq YD .eql 9 (.tmp 10) (.const (.string ⟨#[42]⟩)) (Gt 10) (kS [42])) (St 26) <| mM 26 25 <| Z8)
 (Zt (Gt 25) (Z2 (Z7<|mM 1 27<|mM 2 28<|mK 297 [(Gt 27),(Gt 28)] 29<|mE 0 29 30<|mE 1 29 31<|mM 30 6<|mM 31 7<|Z8)
 ZF) (Z2 (Z7 <| fo (Zq YD .eql 9 (.tmp 10) (.const (.string ⟨#[47]⟩)) (Gt 10) (kS [47])) (St 33) <| mM 33 32 <| Z8)
 (Zt (Gt 32) (Z2 (Z7<|mM 1 34<|mM 2 35<|mK 336 [(Gt 34),(Gt 35)] 36<|mE 0 36 37<|mE 1 36 38<|mM 37 6<|mM 38 7<|Z8)
 ZF) (Z2 (Z7 <| fo (Zq YD .eql 9 (.tmp 10) (.const (.string ⟨#[37]⟩)) (Gt 10) (kS [37])) (St 40) <| mM 40 39 <| Z8)
 (Zt (Gt 39) (Z2 (Z7<|mM 1 41<|mM 2 42<|mK 337 [(Gt 41),(Gt 42)] 43<|mE 0 43 44<|mE 1 43 45<|mM 44 6<|mM 45 7<|Z8)
 ZF) (Z2 (Z7 <| fo (Zq YD .eql 9 (.tmp 10) (.const (.string ⟨#[60, 60]⟩)) (Gt 10) (kS [60, 60])) (St 47) <| mM 47 46 <| Z8)
 (Zt (Gt 46) (Z2 (Z7<|mM 1 48<|mM 2 49<|mK 338 [(Gt 48),(Gt 49)] 50<|mE 0 50 51<|mE 1 50 52<|mM 51 6<|mM 52 7<|Z8)
 ZF) (Z2 (Z7 <| fo (Zq YD .eql 9 (.tmp 10) (.const (.string ⟨#[62, 62]⟩)) (Gt 10) (kS [62, 62])) (St 54) <| mM 54 53 <| Z8)
 (Zt (Gt 53) (Z2 (Z7<|mM 1 55<|mM 2 56<|mK 339 [(Gt 55),(Gt 56)] 57<|mE 0 57 58<|mE 1 57 59<|mM 58 6<|mM 59 7<|Z8)
 ZF) (Z2 (Z7 <| fo (Zq YD .eql 9 (.tmp 10) (.const (.string ⟨#[38]⟩)) (Gt 10) (kS [38])) (St 61) <| mM 61 60 <| Z8)
 (Zt (Gt 60) (Z2 (Z7<|mM 1 62<|mM 2 63<|fo (Zpj .and 36 (.tmp 62) (.tmp 63) (Gt 62) (Gt 63)) (St 64)<|mM 64 6<|fo (ZC (kI 0)) (St 7)<|Z8)
 ZF) (Z2 (Z7 <| fo (Zq YD .eql 9 (.tmp 10) (.const (.string ⟨#[124]⟩)) (Gt 10) (kS [124])) (St 66) <| mM 66 65 <| Z8)
 (Zt (Gt 65) (Z2 (Z7<|mM 1 67<|mM 2 68<|fo (Zpj .or 36 (.tmp 67) (.tmp 68) (Gt 67) (Gt 68)) (St 69)<|mM 69 6<|fo (ZC (kI 0)) (St 7)<|Z8)
 ZF) ZJ))))))))))))))))))))
 (Z2 (Z7<|mM 0 71<|mM 1 72<|mM 2 73<|mK 340 [(Gt 71),(Gt 72),(Gt 73)] 74<|mM 74 70<|mE 0 70 75<|mE 1 70 76<|mM 75 8<|mM 76 9<|Z8)
 (Z2 (Z2 (Z7<|mM 9 77<|fo (u1 (Zft .not) (Gt 77)) (St 78)<|Z8)
 (Zt (Gt 78) (Z2 (Z7<|fo (ZC (kD (.int .u64 (.ofNat 0)))) (St 6)<|fo (ZC (kI 4)) (St 7)<|Z8)
 ZF) ZJ))
 (Z2 (Z7<|mM 8 79<|mM 79 6<|fo (ZC (kI 0)) (St 7)<|Z8)
 ZF)))))
def Zw8 : Yd := Uz Zs (fun t h => .ok (.tup [(Gt 6) t, (Gt 7) t]) h)
 (Z2 (Z7<|fo (ZC (kD (.int .u64 (.ofNat 0)))) (St 6)<|fo (ZC (kD (.v (.bool false)))) (St 7)<|Z8)
 (Z2 (Z2 (Z7<|mM 0 8<|Z8)
 (ZM 0 (Z2 (Z7<|fo (Zq YD .eql 9 (.tmp 8) (.const (.string ⟨#[61,61]⟩)) (Gt 8) (kS [61,61])) (St 10)<|mM 10 9<|Z8)
 (Zt (Gt 9) (Z2 (Z7<|mM 1 11<|mM 2 12<|fo (Zq YD .eql 36 (.tmp 11) (.tmp 12) (Gt 11) (Gt 12)) (St 13)<|mK 301 [(Gt 13)] 14<|mM 14 6<|fo (ZC (kD (.v (.bool true)))) (St 7)<|Z8)
 ZF) (Z2 (Z7 <| fo (Zq YD .eql 9 (.tmp 8) (.const (.string ⟨#[33, 61]⟩)) (Gt 8) (kS [33, 61])) (St 16) <| mM 16 15 <| Z8)
 (Zt (Gt 15) (Z2 (Z7<|mM 1 17<|mM 2 18<|fo (Zq VT .neq 36 (.tmp 17) (.tmp 18) (Gt 17) (Gt 18)) (St 19)<|mK 301 [(Gt 19)] 20<|mM 20 6<|fo (ZC (kD (.v (.bool true)))) (St 7)<|Z8)
 ZF) (Z2 (Z7 <| fo (Zq YD .eql 9 (.tmp 8) (.const (.string ⟨#[60]⟩)) (Gt 8) (kS [60])) (St 22) <| mM 22 21 <| Z8)
 (Zt (Gt 21) (Z2 (Z7<|mM 1 23<|mM 2 24<|fo (Zq WH .lss 36 (.tmp 23) (.tmp 24) (Gt 23) (Gt 24)) (St 25)<|mK 301 [(Gt 25)] 26<|mM 26 6<|fo (ZC (kD (.v (.bool true)))) (St 7)<|Z8)
 ZF) (Z2 (Z7 <| fo (Zq YD .eql 9 (.tmp 8) (.const (.string ⟨#[60, 61]⟩)) (Gt 8) (kS [60, 61])) (St 28) <| mM 28 27 <| Z8)
 (Zt (Gt 27) (Z2 (Z7<|mM 1 29<|mM 2 30<|fo (Zq Zfx .leq 36 (.tmp 29) (.tmp 30) (Gt 29) (Gt 30)) (St 31)<|mK 301 [(Gt 31)] 32<|mM 32 6<|fo (ZC (kD (.v (.bool true)))) (St 7)<|Z8)
 ZF) (Z2 (Z7 <| fo (Zq YD .eql 9 (.tmp 8) (.const (.string ⟨#[62]⟩)) (Gt 8) (kS [62])) (St 34) <| mM 34 33 <| Z8)
 (Zt (Gt 33) (Z2 (Z7<|mM 1 35<|mM 2 36<|fo (Zq Zcy .gtr 36 (.tmp 35) (.tmp 36) (Gt 35) (Gt 36)) (St 37)<|mK 301 [(Gt 37)] 38<|mM 38 6<|fo (ZC (kD (.v (.bool true)))) (St 7)<|Z8)
 ZF) (Z2 (Z7 <| fo (Zq YD .eql 9 (.tmp 8) (.const (.string ⟨#[62, 61]⟩)) (Gt 8) (kS [62, 61])) (St 40) <| mM 40 39 <| Z8)
 (Zt (Gt 39) (Z2 (Z7<|mM 1 41<|mM 2 42<|fo (Zq Zc3 .geq 36 (.tmp 41) (.tmp 42) (Gt 41) (Gt 42)) (St 43)<|mK 301 [(Gt 43)] 44<|mM 44 6<|fo (ZC (kD (.v (.bool true)))) (St 7)<|Z8)
 ZF) (Z2 (Z7 <| fo (Zq YD .eql 9 (.tmp 8) (.const (.string ⟨#[38, 38]⟩)) (Gt 8) (kS [38, 38])) (St 46) <| mM 46 45 <| Z8)
 (Zt (Gt 45) (Z2 (Z7<|mM 1 47<|fo (Zq VT .neq 36 (.tmp 47) (.const (.int .u64 (.ofNat 0))) (Gt 47) (kD (.int .u64 (.ofNat 0)))) (St 48)<|mM 48 49<|YG (Gt 49) true (ZC (Gt 2)) (St 50)<|YG (Gt 49) true (Zq VT .neq 36 (.tmp 50) (.const (.int .u64 (.ofNat 0))) (Gt 50) (kD (.int .u64 (.ofNat 0)))) (St 51)<|fo (Xa (Gt 49) (Gt 51) (kD (.v (.bool false)))) (St 52)<|mK 301 [(Gt 52)] 53<|mM 53 6<|fo (ZC (kD (.v (.bool true)))) (St 7)<|Z8)
 ZF) (Z2 (Z7 <| fo (Zq YD .eql 9 (.tmp 8) (.const (.string ⟨#[124, 124]⟩)) (Gt 8) (kS [124, 124])) (St 55) <| mM 55 54 <| Z8)
 (Zt (Gt 54) (Z2 (Z7<|mM 1 56<|fo (Zq VT .neq 36 (.tmp 56) (.const (.int .u64 (.ofNat 0))) (Gt 56) (kD (.int .u64 (.ofNat 0)))) (St 57)<|mM 57 58<|YG (Gt 58) false (ZC (Gt 2)) (St 59)<|YG (Gt 58) false (Zq VT .neq 36 (.tmp 59) (.const (.int .u64 (.ofNat 0))) (Gt 59) (kD (.int .u64 (.ofNat 0)))) (St 60)<|fo (Xa (Gt 58) (kD (.v (.bool true))) (Gt 60)) (St 61)<|mK 301 [(Gt 61)] 62<|mM 62 6<|fo (ZC (kD (.v (.bool true)))) (St 7)<|Z8)
 ZF) ZJ))))))))))))))))))
 (Z2 (Z7<|fo (ZC (kD (.int .u64 (.ofNat 0)))) (St 6)<|fo (ZC (kD (.v (.bool false)))) (St 7)<|Z8)
 ZF)))
def Zty : Yd := Uz Zs (fun t h => .ok (Gt 2 t) h)
 (Z2 (Z7<|fo (ZC (kD (.int .u64 (.ofNat 0)))) (St 2)<|Z8)
 (Z2 (Z2 (Z7<|mM 0 3<|Z8)
 (Zt (Gt 3) (Z2 (Z7<|fo (ZC (kD (.int .u64 (.ofNat 1)))) (St 2)<|Z8)
 ZF) ZJ))
 (Z2 (Z7<|fo (ZC (kD (.int .u64 (.ofNat 0)))) (St 2)<|Z8)
 ZF)))
def Zx9 (K : List (Nat × D)) : List (D × D) := K.map fun e => (.int .i64 (.ofNat e.1), e.2)
def KV (K : List (Nat × D)) : AObj := .map (Zx9 K)
abbrev WJ (u : Nat × Nat) : List D := [.int .u64 (.ofNat u.1), .int .i64 (.ofNat u.2)]
def KC (es : List XE) (env : Ev) (K : List (Nat × D)) : Prop := ∀ e ∈ K, e.2 = .agg (WJ (Zfy es env (e.1 + 1) e.1))
theorem KC_nil {es : List XE} {env : Ev} : KC es env [] := fun _ h => by cases h
theorem Zox {es : List XE} {env : Ev} {n : Nat} : ∀ {K : List (Nat × D)}, KC es env K → X0 (.int .i64 (.ofNat n)) (Zx9 K) = some none ∨ X0 (.int .i64 (.ofNat n)) (Zx9 K) = some (some (.agg (WJ (Zfy es env (n + 1) n))))
  | [], _ => .inl rfl
  | (m, d) :: K, h => by
    have h1 := h (m, d) (List.mem_cons_self ..)
    simp only [Zx9, List.map_cons, X0, XO, decide_true, cond_true]
    by_cases e : n = m
    · subst e
      simp only at h1
      subst h1
      exact .inr (by simp)
    · have h2 : (decide (Int.ofNat n = Int.ofNat m)) = false := decide_eq_false fun h => e (Int.ofNat.inj h)
      simp only [h2]
      exact Zox fun x hx => h x (List.mem_cons_of_mem _ hx)
theorem Zq8 {es : List XE} {env : Ev} {n : Nat} : ∀ {K : List (Nat × D)}, KC es env K → ∃ K', VJ (.int .i64 (.ofNat n)) (.agg (WJ (Zfy es env (n + 1) n))) (Zx9 K) = some (Zx9 K') ∧ KC es env K'
  | [], _ => ⟨[(n, .agg (WJ (Zfy es env (n + 1) n)))], rfl, fun e he => by rw [List.mem_singleton.1 he]⟩
  | (m, d) :: K, h => by
    have h1 := h (m, d) (List.mem_cons_self ..)
    simp only [Zx9, List.map_cons, VJ, XO, decide_true, cond_true]
    by_cases e : n = m
    · subst e
      refine ⟨(n, .agg (WJ (Zfy es env (n + 1) n))) :: K, by simp only [decide_true]; rfl, fun x hx => ?_⟩
      rcases List.mem_cons.1 hx with rfl | hx
      · rfl
      · exact h x (List.mem_cons_of_mem _ hx)
    · have h2 : (decide (Int.ofNat n = Int.ofNat m)) = false := decide_eq_false fun h => e (Int.ofNat.inj h)
      obtain ⟨K', e1, e2⟩ := Zq8 (n := n) fun x hx => h x (List.mem_cons_of_mem _ hx)
      simp only [Zx9] at e1
      refine ⟨(m, d) :: K', by simp only [h2, e1]; rfl, fun x hx => ?_⟩
      rcases List.mem_cons.1 hx with rfl | hx
      · exact h1
      · exact e2 x hx
def lkT (o : Option AObj) (z : D) (n : Nat) (h : H) : O D :=
  match o with
  | some (.map es) => match X0 (.int .i64 (.ofNat n)) es with
    | some (some d) => .ok (.tup [d, .v (.bool true)]) h
    | some none => .ok (.tup [z, .v (.bool false)]) h
    | none => .fail "lookup: key"
  | _ => .fail "lookup"
theorem Zok {l n : Nat} {z : D} {h : H} : Zz8 (E := E) z (.map l) (.int .i64 (.ofNat n)) h = lkT (hget h.mem l) z n h := by
  rw [Yg]
  simp only [Zz8, Zgw, Vh, AAct.eval, U7, cond_true, lkT]
  cases h.mem.get l with
  | none => rfl
  | some o => cases o <;> first | rfl | (rename_i es; simp only []; cases X0 (.int .i64 (.ofNat n)) es with
    | none => rfl
    | some o => cases o <;> rfl)
def msT (o : Option AObj) (l n : Nat) (d : D) (h : H) : O D :=
  match o with
  | some (.map es) => match VJ (.int .i64 (.ofNat n)) d es with
    | some es => .ok ZT (YX h l (.map es))
    | none => .fail "mapUpdate: key"
  | _ => .fail "mapUpdate"
theorem Zxc {l n : Nat} {d : D} {h : H} : Zz7 (E := E) (.map l) (.int .i64 (.ofNat n)) d h = msT (hget h.mem l) l n d h := by
  rw [Yg]
  simp only [Zz7, Zgv, Uh, AAct.eval, U7, cond_true, msT, VS]
  cases h.mem.get l with
  | none => rfl
  | some o => cases o <;> rfl
theorem Zst {es : List XE} {env : Ev} (hw : ∀ (i : Nat) (x : XE), es[i]? = some x → ∀ j ∈ x.kids, j < i) : ∀ (f a : Nat), a < f → Zfy es env f a = Zfy es env (a + 1) a := by
  intro f
  induction f using Nat.strongRecOn with
  | ind f ih =>
    intro a ha
    obtain ⟨g, rfl⟩ : ∃ g, f = g + 1 := ⟨f - 1, by omega⟩
    simp only [Zfy]
    cases hx : es[a]? with
    | none => rfl
    | some x =>
      have hk := hw a x hx
      simp only []
      split
      · rfl
      · split
        · rfl
        · split
          · split
            · rename_i i j hij
              have hi : i < a := hk i (by rw [hij]; simp)
              have hj : j < a := hk j (by rw [hij]; simp)
              rw [ih g (by omega) i (by omega), ih g (by omega) j (by omega)]
              by_cases hg : a = 0
              · omega
              · rw [ih a (by omega) i hi, ih a (by omega) j hj]
            · rfl
          · rfl
theorem vc301 (h301 : T 301 = Zty) {u : Bool} (hq : Q (.int .u64 (.ofNat (b2n u))) h) : VC E T 301 [.v (.bool u)] h Q R := by
  unfold b2n at hq
  refine Zp h301 ?_
  unfold Zs
  cases u
  all_goals
    simp only [Bool.false_eq_true, if_true, if_false] at hq
    repeat' (with_reducible (first | refine Za ?_ | refine Zb ?_ | refine Zk ?_ | refine Zj ?_ | refine Zd ?_ | refine Z3 ?_ | refine Zc ?_ | refine Zl ?_ | refine Z9 ?_ | refine Z4 ?_ | refine Ze ?_ | simp (maxSteps := 2000000) (disch := first | assumption | omega | (simp only [Z1, Z0, List.length_cons, List.length_nil, List.length_append, List.length_take, List.length_drop]; omega) | fail) only [go_sem, -Int.reduceOfNat, *] | ((first | refine Zn ?_ ?_ | refine Zh ?_ ?_ | refine Zm ?_ ?_ | refine Zf ?_ ?_ | refine Zg ?_ ?_ | refine Z5 ?_ ?_) <;> intro _) | (show Q _ _; exact hq) | assumption | exact trivial | (show _ < _; omega) | (show _ ≤ _; omega) | (show ¬ (_ : Nat) = _; omega) | (show (_ : Nat) ≠ _; omega) | (show (_ : Nat) = _; omega) | (intro _; intros) | (refine ⟨_, by assumption, ?_⟩) | refine And.intro ?_ ?_))
theorem Zo1 {op : List Nat} {a b : Nat} {u : Bool} (h : Zkx op a b = some u) : (op = [61, 61] ∧ u = decide (a = b)) ∨ (op = [60] ∧ u = decide (a < b)) ∨ (op = [60, 61] ∧ u = !decide (b < a)) ∨ (op = [62] ∧ u = decide (b < a)) := by
  unfold Zkx at h
  split at h
  · exact .inl ⟨by assumption, by cases h; rfl⟩
  split at h
  · exact .inr (.inl ⟨by assumption, by cases h; rfl⟩)
  split at h
  · exact .inr (.inr (.inl ⟨by assumption, by cases h; rfl⟩))
  split at h
  · exact .inr (.inr (.inr ⟨by assumption, by cases h; rfl⟩))
  · cases h
theorem vc340 (h301 : T 301 = Zty) (h340 : T 340 = Zw8) {op : List Nat} {a b : Nat} {u : Bool} (hu : Zkx op a b = some u) (hq : Q (.tup [.int .u64 (.ofNat (b2n u)), .v (.bool true)]) h) : VC E T 340 [.str op, .int .u64 (.ofNat a), .int .u64 (.ofNat b)] h Q R := by
  rcases Zo1 hu with ⟨rfl, rfl⟩ | ⟨rfl, rfl⟩ | ⟨rfl, rfl⟩ | ⟨rfl, rfl⟩
  all_goals
    clear hu
    refine Zp h340 ?_
    unfold Zs
    repeat' (with_reducible (first | refine Za ?_ | refine Zb ?_ | refine Zk ?_ | refine Zj ?_ | refine Zd ?_ | refine Z3 ?_ | refine Zc ?_ | refine Zl ?_ | refine Z9 ?_ | refine Z4 ?_ | refine Ze ?_ | refine vc301 h301 ?_ | simp (maxSteps := 2000000) (disch := first | assumption | omega | (simp only [Z1, Z0, List.length_cons, List.length_nil, List.length_append, List.length_take, List.length_drop]; omega) | fail) only [go_sem, -Int.reduceOfNat, *] | ((first | refine Zn ?_ ?_ | refine Zh ?_ ?_ | refine Zm ?_ ?_ | refine Zf ?_ ?_ | refine Zg ?_ ?_ | refine Z5 ?_ ?_) <;> intro _) | (show Q _ _; exact hq) | assumption | exact trivial | (show _ < _; omega) | (show _ ≤ _; omega) | (show ¬ (_ : Nat) = _; omega) | (show (_ : Nat) ≠ _; omega) | (show (_ : Nat) = _; omega) | (intro _; intros) | (refine ⟨_, by assumption, ?_⟩) | refine And.intro ?_ ?_))
theorem vc319 (h301 : T 301 = Zty) (h340 : T 340 = Zw8) (h319 : T 319 = Zzs) {op : List Nat} {a b : Nat} {u : Bool} (hu : Zkx op a b = some u) (hq : Q (.tup [.int .u64 (.ofNat (b2n u)), .int .i64 (.ofNat 0)]) h) : VC E T 319 [.str op, .int .u64 (.ofNat a), .int .u64 (.ofNat b)] h Q R := by
  have hu' := hu
  rcases Zo1 hu with ⟨rfl, rfl⟩ | ⟨rfl, rfl⟩ | ⟨rfl, rfl⟩ | ⟨rfl, rfl⟩
  all_goals
    clear hu
    refine Zp h319 ?_
    unfold Zs
    repeat' (with_reducible (first | refine Za ?_ | refine Zb ?_ | refine Zk ?_ | refine Zj ?_ | refine Zd ?_ | refine Z3 ?_ | refine Zc ?_ | refine Zl ?_ | refine Z9 ?_ | refine Z4 ?_ | refine Ze ?_ | refine vc340 h301 h340 hu' ?_ | simp (maxSteps := 2000000) (disch := first | assumption | omega | (simp only [Z1, Z0, List.length_cons, List.length_nil, List.length_append, List.length_take, List.length_drop]; omega) | fail) only [go_sem, -Int.reduceOfNat, *] | ((first | refine Zn ?_ ?_ | refine Zh ?_ ?_ | refine Zm ?_ ?_ | refine Zf ?_ ?_ | refine Zg ?_ ?_ | refine Z5 ?_ ?_) <;> intro _) | (show Q _ _; exact hq) | assumption | exact trivial | (show _ < _; omega) | (show _ ≤ _; omega) | (show ¬ (_ : Nat) = _; omega) | (show (_ : Nat) ≠ _; omega) | (show (_ : Nat) = _; omega) | (intro _; intros) | (refine ⟨_, by assumption, ?_⟩) | refine And.intro ?_ ?_))
end
section
variable {h : H} {Q : D → H → Prop} {R : Y1}
theorem Zbj {α : Type} {F : α → List D → Prop} {z : Nat} {d : D} {xs : List α} (hr : UC F z d xs) (z0 : 0 < z) {i : Nat} {x : α} (hx : xs[i]? = some x) : ∃ c r, F x c ∧ c.length = z ∧ ∀ (kk : IntKind) (h : H), Zbw z d (.int kk (.ofNat i)) h = .ok (.ep (c ++ r)) h := by
  obtain ⟨cs, hw, hl, hd⟩ := hr
  have hi : i < xs.length := (List.getElem?_eq_some_iff.1 hx).1
  have hc : cs[i]? = some (cs[i]'(by rw [hw.1]; exact hi)) := List.getElem?_eq_getElem (by rw [hw.1]; exact hi)
  have h2 := hl _ (List.mem_of_getElem? hc)
  have hf := Zfe hl (i := i) (by rw [hw.1]; exact hi)
  rcases hd with ⟨rfl, _⟩ | ⟨id, rfl, _⟩
  · simp at hx
  generalize cs[i]'(by rw [hw.1]; exact hi) = c at *
  cases c with
  | nil => simp at h2; omega
  | cons a r => exact ⟨a :: r, _, hw.2 i x _ hx hc, h2, fun kk h => VY (by rw [hw.1]; exact hi) hf⟩
theorem Zy {α : Type} {F : α → List D → Prop} {z : Nat} {d : D} {xs : List α} (hr : UC F z d xs) : d.cells = [d] := by
  obtain ⟨cs, r, _, ⟨rfl, rfl⟩ | ⟨id, rfl, hne⟩⟩ := hr <;> rfl
def Zqu (env : Ev) : List D := env.flatMap fun x => [.str x.1, .int .u64 (.ofNat x.2)]
def Zqc (env : Ev) : D :=
  match env with
  | [] => .v (.slice none 0 0)
  | x :: r => .sl 0 (r.length + 1) (Zqu (x :: r))
theorem Zwb (env : Ev) : (Zqu env).length = env.length * 2 := by
  induction env with
  | nil => rfl
  | cons x r ih => simp only [Zqu, List.flatMap_cons, List.length_append, List.length_cons, List.length_nil] at ih ⊢; omega
theorem Zfg (env : Ev) : (Zqc env).one = true := by cases env <;> rfl
theorem Zba (env : Ev) : (Zqc env).cells = [Zqc env] := by cases env <;> rfl
theorem Z24 (env : Ev) : Zf8 env.length (Zqu env) = true := by
  induction env with
  | nil => rfl
  | cons x r ih => exact ih
theorem vc86 (h86 : T 86 = Xb Zcd) {env : Ev} {s : List Nat} {n : Nat} (hl : env.length ≤ 1000000) (hq : Q (Zqc (env ++ [(s, n)])) h) : VC E T 86 [Zqc env, .str s, .int .u64 (.ofNat n)] h Q R := by
  refine Zcj h86 ?_
  cases env with
  | nil => exact hq
  | cons x r =>
    show VO Q R (bif Nat.ble (r.length + 1) 1000000 && Zf8 (r.length + 1) (Zqu (x :: r)) then .ok (.sl 0 (Nat.add (r.length + 1) 1) (Zqu (x :: r) ++ [.str s, .int .u64 (.ofNat n)])) h else .fail "with")
    have e := Z24 (x :: r)
    rw [List.length_cons] at e hl
    rw [e, Nat.ble_eq_true_of_le hl]
    show Q _ h
    have e2 : Zqc (x :: r ++ [(s, n)]) = .sl 0 (Nat.add (r.length + 1) 1) (Zqu (x :: r) ++ [.str s, .int .u64 (.ofNat n)]) := by
      simp [Zqc, Zqu]
    rw [← e2]
    exact hq
def Zp5 (s : List Nat) (env : Ev) : Nat × Bool :=
  match Zhg s env with
  | some n => (n, true)
  | none => (0, false)
theorem Zls (s : List Nat) : ∀ (env : Ev) (z : Int) (u : Bool), Zlt s (z, u) (Zqu env) = some (match Zhg s env with
    | some n => (.ofNat n, true)
    | none => (z, u))
  | [], z, u => rfl
  | (x, n) :: r, z, u => by
    show Zlt s (bif U5 x s then (.ofNat n, true) else (z, u)) (Zqu r) = _
    rw [X5, Zhg]
    by_cases e : x = s
    · rw [decide_eq_true e, cond_true, Zls s r]
      simp only [e, if_true]
      cases Zhg s r <;> rfl
    · rw [decide_eq_false e, cond_false, Zls s r]
      simp only [e, if_false]
      cases Zhg s r <;> rfl
theorem vc300 (h300 : T 300 = Xb Zct) {env : Ev} {s : List Nat} (hl : env.length ≤ 1000000) (hq : Q (.tup [.int .u64 (.ofNat (Zp5 s env).1), .v (.bool (Zp5 s env).2)]) h) : VC E T 300 [Zqc env, .str s] h Q R := by
  refine Zcj h300 ?_
  have hs := Zls s env 0 false
  have hc : ZK h 2 (Zqc env) = some (env.length, Zqu env) := by
    cases env with
    | nil => rfl
    | cons x r =>
      have e := Zwb (x :: r)
      rw [List.length_cons] at e
      show (bif Nat.beq (Zqu (x :: r)).length ((r.length + 1) * 2) then some (r.length + 1, Zqu (x :: r)) else none) = _
      rw [e, Nat.beq_refl]; rfl
  have hb : (Nat.ble env.length 1000000 && Nat.beq (Zqu env).length (env.length * 2)) = true := by
    rw [Zwb, Nat.ble_eq_true_of_le hl, Nat.beq_refl]; rfl
  unfold Zct
  simp only [hc, hb, cond_true, hs]
  unfold Zp5 at hq
  cases hg : Zhg s env with
  | none => rw [hg] at hq; exact hq
  | some n => rw [hg] at hq; exact hq
def XER (x : XE) (c : List D) : Prop := ∃ dk, c = [.int .i64 (.ofNat x.k), .str x.op, .int .u64 (.ofNat x.n), .str x.nm, dk] ∧ UC IntR 1 dk x.kids
section
variable {es : List XE} {env : Ev} {de : D} {l lm : Nat}
abbrev Z1v (h h' : H) (lm : Nat) : Prop := ∀ x, x < h.next → x ≠ lm → hget h'.mem x = hget h.mem x
abbrev Zu0 (de : D) (env : Ev) (lm : Nat) : AObj := .cells 360 [de, Zqc env, .map lm]
abbrev NQ (es : List XE) (env : Ev) (lm a : Nat) (h : H) (Q : D → H → Prop) : Prop := ∀ h' K', h.next ≤ h'.next → Z1v h h' lm → hget h'.mem lm = some (KV K') → KC es env K' → Q (.agg (WJ (Zfy es env (a + 1) a))) h'
def VN (E : Env) (T : Nat → Yd) (es : List XE) (env : Ev) (de : D) (a : Nat) : Prop := ∀ {l lm : Nat} {h : H} {K : List (Nat × D)} {Q : D → H → Prop} {R : Y1}, (Zfy es env (a + 1) a).2 ≠ 99 → hget h.mem l = some (Zu0 de env lm) → hget h.mem lm = some (KV K) → KC es env K → l < h.next → lm < h.next → l ≠ lm → NQ es env lm a h Q → VC E T 234 [.ptr l 0, .int .i64 (.ofNat a)] h Q R
theorem VN.do {a : Nat} (hv : VN E T es env de a) {K : List (Nat × D)} (h1 : (Zfy es env (a + 1) a).2 ≠ 99) (h2 : hget h.mem l = some (Zu0 de env lm)) (h3 : hget h.mem lm = some (KV K)) (h4 : KC es env K) (h5 : l < h.next) (h6 : lm < h.next) (h7 : l ≠ lm) (hq : NQ es env lm a h Q) : VC E T 234 [.ptr l 0, .int .i64 (.ofNat a)] h Q R := hv h1 h2 h3 h4 h5 h6 h7 hq
theorem vc302 (h301 : T 301 = Zty) (h340 : T 340 = Zw8) (h319 : T 319 = Zzs) (h302 : T 302 = Z20) {i j n : Nat} {op nm : List Nat} {dk : D} (hk : UC IntR 1 dk [i, j]) (hi : VN E T es env de i) (hj : VN E T es env de j) {u v : Nat × Nat} (hu : Zfy es env (i + 1) i = u) (hv : Zfy es env (j + 1) j = v) (u9 : u.2 ≠ 99) (v9 : u.2 = 0 → v.2 ≠ 99) {w : Bool} (ho : u.2 = 0 → v.2 = 0 → Zkx op u.1 v.1 = some w) {K : List (Nat × D)} (h2 : hget h.mem l = some (Zu0 de env lm)) (h3 : hget h.mem lm = some (KV K)) (h4 : KC es env K) (h5 : l < h.next) (h6 : lm < h.next) (h7 : l ≠ lm)
    (hq : ∀ h' K', h.next ≤ h'.next → Z1v h h' lm → hget h'.mem lm = some (KV K') → KC es env K' → Q (.agg (WJ (if u.2 = 0 then if v.2 = 0 then (b2n w, 0) else v else u))) h') : VC E T 302 [.ptr l 0, .agg [.int .i64 (.ofNat 3), .str op, .int .u64 (.ofNat n), .str nm, dk]] h Q R := by
  obtain ⟨c0, r0, f0, z0, x0⟩ := Zbj hk (by decide) (i := 0) rfl
  obtain ⟨c1, r1, f1, z1, x1⟩ := Zbj hk (by decide) (i := 1) rfl
  unfold IntR at f0 f1
  subst f0; subst f1
  have hdc := Zy hk
  have hdo := ZP hk
  have hi' : (Zfy es env (i + 1) i).2 ≠ 99 := by rw [hu]; exact u9
  clear z0 z1 hk
  by_cases e1 : u.2 = 0
  · have v9' := v9 e1
    have hj' : (Zfy es env (j + 1) j).2 ≠ 99 := by rw [hv]; exact v9'
    have ho' := ho e1
    clear v9 ho
    by_cases e2 : v.2 = 0
    · have ho2 := ho' e2
      simp only [e1, e2, if_true] at hq
      refine Zp h302 ?_
      unfold Zs
      repeat' (with_reducible (first | refine Za ?_ | refine Zb ?_ | refine Zk ?_ | refine Zj ?_ | refine Zd ?_ | refine Z3 ?_ | refine Zc ?_ | refine Zl ?_ | refine Z9 ?_ | refine Z4 ?_ | refine Ze ?_ | refine hi.do (K := K) (lm := lm) hi' ?_ ?_ h4 ?_ ?_ ?_ ?_ | refine hj.do (K := K1) (lm := lm) hj' ?_ ?_ k1 ?_ ?_ ?_ ?_ | refine vc319 h301 h340 h319 ho2 ?_ | simp (maxSteps := 2000000) (disch := first | assumption | omega | (simp only [Z1, Z0, List.length_cons, List.length_nil, List.length_append, List.length_take, List.length_drop]; omega) | fail) only [go_sem, -Int.reduceOfNat, *, hu, hv, e1, e2, WJ, NQ, Z1v] | ((first | refine Zn ?_ ?_ | refine Zh ?_ ?_ | refine Zm ?_ ?_ | refine Zf ?_ ?_ | refine Zg ?_ ?_ | refine Z5 ?_ ?_) <;> intro _) | (show Q _ _; refine hq _ K1 ?_ ?_ ?_ ?_) | (rintro h1 K1 n1 f1 m1 k1) | assumption | exact trivial | (show _ < _; omega) | (show _ ≤ _; omega) | (show ¬ (_ : Nat) = _; omega) | (show (_ : Nat) ≠ _; omega) | (show (_ : Nat) = _; omega) | (intro _; intros) | (refine ⟨_, by assumption, ?_⟩) | refine And.intro ?_ ?_))
    · simp only [e1, e2, if_true, if_false] at hq
      refine Zp h302 ?_
      unfold Zs
      repeat' (with_reducible (first | refine Za ?_ | refine Zb ?_ | refine Zk ?_ | refine Zj ?_ | refine Zd ?_ | refine Z3 ?_ | refine Zc ?_ | refine Zl ?_ | refine Z9 ?_ | refine Z4 ?_ | refine Ze ?_ | refine hi.do (K := K) (lm := lm) hi' ?_ ?_ h4 ?_ ?_ ?_ ?_ | refine hj.do (K := K1) (lm := lm) hj' ?_ ?_ k1 ?_ ?_ ?_ ?_ | simp (maxSteps := 2000000) (disch := first | assumption | omega | (simp only [Z1, Z0, List.length_cons, List.length_nil, List.length_append, List.length_take, List.length_drop]; omega) | fail) only [go_sem, -Int.reduceOfNat, *, hu, hv, e1, e2, WJ, NQ, Z1v] | ((first | refine Zn ?_ ?_ | refine Zh ?_ ?_ | refine Zm ?_ ?_ | refine Zf ?_ ?_ | refine Zg ?_ ?_ | refine Z5 ?_ ?_) <;> intro _) | (show Q _ _; refine hq _ K1 ?_ ?_ ?_ ?_) | (rintro h1 K1 n1 f1 m1 k1) | assumption | exact trivial | (show _ < _; omega) | (show _ ≤ _; omega) | (show ¬ (_ : Nat) = _; omega) | (show (_ : Nat) ≠ _; omega) | (show (_ : Nat) = _; omega) | (intro _; intros) | (refine ⟨_, by assumption, ?_⟩) | refine And.intro ?_ ?_))
  · simp only [e1, if_false] at hq
    refine Zp h302 ?_
    unfold Zs
    repeat' (with_reducible (first | refine Za ?_ | refine Zb ?_ | refine Zk ?_ | refine Zj ?_ | refine Zd ?_ | refine Z3 ?_ | refine Zc ?_ | refine Zl ?_ | refine Z9 ?_ | refine Z4 ?_ | refine Ze ?_ | refine hi.do (K := K) (lm := lm) hi' ?_ ?_ h4 ?_ ?_ ?_ ?_ | simp (maxSteps := 2000000) (disch := first | assumption | omega | (simp only [Z1, Z0, List.length_cons, List.length_nil, List.length_append, List.length_take, List.length_drop]; omega) | fail) only [go_sem, -Int.reduceOfNat, *, hu, e1, WJ, NQ, Z1v] | ((first | refine Zn ?_ ?_ | refine Zh ?_ ?_ | refine Zm ?_ ?_ | refine Zf ?_ ?_ | refine Zg ?_ ?_ | refine Z5 ?_ ?_) <;> intro _) | (show Q _ _; refine hq _ K1 ?_ ?_ ?_ ?_) | (rintro h1 K1 n1 f1 m1 k1) | assumption | exact trivial | (show _ < _; omega) | (show _ ≤ _; omega) | (show ¬ (_ : Nat) = _; omega) | (show (_ : Nat) ≠ _; omega) | (show (_ : Nat) = _; omega) | (intro _; intros) | (refine ⟨_, by assumption, ?_⟩) | refine And.intro ?_ ?_))
end
end
section
variable {h : H} {Q : D → H → Prop} {R : Y1}
section
variable {es : List XE} {env : Ev} {de : D} {l lm : Nat}
def WFe (es : List XE) : Prop := ∀ (i : Nat) (x : XE), es[i]? = some x → ∀ j ∈ x.kids, j < i
theorem vc276 (h301 : T 301 = Zty) (h340 : T 340 = Zw8) (h319 : T 319 = Zzs) (h302 : T 302 = Z20) (h300 : T 300 = Xb Zct) (h276 : T 276 = q276) (hw : WFe es) (hl : env.length ≤ 1000000) {a : Nat} {x : XE} (hx : es[a]? = some x) (hs : ∀ j ∈ x.kids, VN E T es env de j) {dk : D} (hk : UC IntR 1 dk x.kids) {K : List (Nat × D)} (h9 : (Zfy es env (a + 1) a).2 ≠ 99) (h2 : hget h.mem l = some (Zu0 de env lm)) (h3 : hget h.mem lm = some (KV K)) (h4 : KC es env K) (h5 : l < h.next) (h6 : lm < h.next) (h7 : l ≠ lm) (hq : NQ es env lm a h Q) : VC E T 276 [.ptr l 0, .agg [.int .i64 (.ofNat x.k), .str x.op, .int .u64 (.ofNat x.n), .str x.nm, dk]] h Q R := by
  have he1 := Zfg env
  have he2 := Zba env
  have hdc := Zy hk
  have hdo := ZP hk
  unfold NQ at hq
  by_cases k0 : x.k = 0
  · have e : Zfy es env (a + 1) a = (x.n, 0) := by simp only [Zfy, hx, k0, if_true]
    rw [e] at hq
    simp only [WJ] at hq
    refine Zp h276 ?_
    unfold Zs
    repeat' (with_reducible (first | refine Za ?_ | refine Zb ?_ | refine Zk ?_ | refine Zj ?_ | refine Zd ?_ | refine Z3 ?_ | refine Zc ?_ | refine Zl ?_ | refine Z9 ?_ | refine Z4 ?_ | refine Ze ?_ | simp (maxSteps := 2000000) (disch := first | assumption | omega | (simp only [Z1, Z0, List.length_cons, List.length_nil, List.length_append, List.length_take, List.length_drop]; omega) | fail) only [go_sem, -Int.reduceOfNat, *, k0] | ((first | refine Zn ?_ ?_ | refine Zh ?_ ?_ | refine Zm ?_ ?_ | refine Zf ?_ ?_ | refine Zg ?_ ?_ | refine Z5 ?_ ?_) <;> intro _) | (show Q _ _; refine hq _ K ?_ ?_ ?_ ?_) | assumption | exact trivial | (show _ < _; omega) | (show _ ≤ _; omega) | (show ¬ (_ : Nat) = _; omega) | (show (_ : Nat) ≠ _; omega) | (show (_ : Nat) = _; omega) | (intro _; intros) | (refine ⟨_, by assumption, ?_⟩) | refine And.intro ?_ ?_))
  by_cases k1 : x.k = 1
  · have e : Zfy es env (a + 1) a = (match Zhg x.nm env with
        | some n => (n, 0)
        | none => (0, 11)) := by simp only [Zfy, hx, k1, if_true, Nat.reduceEqDiff, if_false]; rfl
    have hg : Zp5 x.nm env = Zp5 x.nm env := rfl
    cases hv : Zhg x.nm env with
    | none =>
      rw [e, hv] at hq
      simp only [WJ] at hq
      have hg : Zp5 x.nm env = (0, false) := by simp only [Zp5, hv]
      refine Zp h276 ?_
      unfold Zs
      repeat' (with_reducible (first | refine Za ?_ | refine Zb ?_ | refine Zk ?_ | refine Zj ?_ | refine Zd ?_ | refine Z3 ?_ | refine Zc ?_ | refine Zl ?_ | refine Z9 ?_ | refine Z4 ?_ | refine Ze ?_ | refine vc300 h300 hl ?_ | simp (maxSteps := 2000000) (disch := first | assumption | omega | (simp only [Z1, Z0, List.length_cons, List.length_nil, List.length_append, List.length_take, List.length_drop]; omega) | fail) only [go_sem, -Int.reduceOfNat, *, k1, hg] | ((first | refine Zn ?_ ?_ | refine Zh ?_ ?_ | refine Zm ?_ ?_ | refine Zf ?_ ?_ | refine Zg ?_ ?_ | refine Z5 ?_ ?_) <;> intro _) | (show Q _ _; refine hq _ K ?_ ?_ ?_ ?_) | assumption | exact trivial | (show _ < _; omega) | (show _ ≤ _; omega) | (show ¬ (_ : Nat) = _; omega) | (show (_ : Nat) ≠ _; omega) | (show (_ : Nat) = _; omega) | (intro _; intros) | (refine ⟨_, by assumption, ?_⟩) | refine And.intro ?_ ?_))
    | some n =>
      rw [e, hv] at hq
      simp only [WJ] at hq
      have hg : Zp5 x.nm env = (n, true) := by simp only [Zp5, hv]
      refine Zp h276 ?_
      unfold Zs
      repeat' (with_reducible (first | refine Za ?_ | refine Zb ?_ | refine Zk ?_ | refine Zj ?_ | refine Zd ?_ | refine Z3 ?_ | refine Zc ?_ | refine Zl ?_ | refine Z9 ?_ | refine Z4 ?_ | refine Ze ?_ | refine vc300 h300 hl ?_ | simp (maxSteps := 2000000) (disch := first | assumption | omega | (simp only [Z1, Z0, List.length_cons, List.length_nil, List.length_append, List.length_take, List.length_drop]; omega) | fail) only [go_sem, -Int.reduceOfNat, *, k1, hg] | ((first | refine Zn ?_ ?_ | refine Zh ?_ ?_ | refine Zm ?_ ?_ | refine Zf ?_ ?_ | refine Zg ?_ ?_ | refine Z5 ?_ ?_) <;> intro _) | (show Q _ _; refine hq _ K ?_ ?_ ?_ ?_) | assumption | exact trivial | (show _ < _; omega) | (show _ ≤ _; omega) | (show ¬ (_ : Nat) = _; omega) | (show (_ : Nat) ≠ _; omega) | (show (_ : Nat) = _; omega) | (intro _; intros) | (refine ⟨_, by assumption, ?_⟩) | refine And.intro ?_ ?_))
  by_cases k3 : x.k = 3
  · have e0 : Zfy es env (a + 1) a = (match x.kids with
        | [i, j] => let u := Zfy es env a i
          if u.2 = 0 then (let v := Zfy es env a j
            if v.2 = 0 then opS x.op u.1 v.1 else v) else u
        | _ => (0, 99)) := by simp only [Zfy, hx, k3, if_true, Nat.reduceEqDiff, if_false]; rfl
    cases hkk : x.kids with
    | nil => rw [e0, hkk] at h9; exact absurd rfl h9
    | cons i r => cases r with
      | nil => rw [e0, hkk] at h9; exact absurd rfl h9
      | cons j r => cases r with
        | cons _ _ => rw [e0, hkk] at h9; exact absurd rfl h9
        | nil =>
          have hi : i < a := hw a x hx i (by rw [hkk]; simp)
          have hj : j < a := hw a x hx j (by rw [hkk]; simp)
          rw [e0, hkk] at h9 hq
          simp only [] at h9 hq
          rw [Zst hw a i hi, Zst hw a j hj] at h9 hq
          have vi : VN E T es env de i := hs i (by rw [hkk]; simp)
          have vj : VN E T es env de j := hs j (by rw [hkk]; simp)
          rw [hkk] at hk
          clear hs e0
          generalize hu : Zfy es env (i + 1) i = u at h9 hq
          generalize hv : Zfy es env (j + 1) j = v at h9 hq
          have u9 : u.2 ≠ 99 := fun c => by rw [c] at h9; simp only [Nat.reduceEqDiff, if_false] at h9; exact h9 c
          have v9 : u.2 = 0 → v.2 ≠ 99 := fun u0 c => by rw [u0, c] at h9; simp only [if_true, Nat.reduceEqDiff, if_false] at h9; exact h9 c
          have ho : u.2 = 0 → v.2 = 0 → Zkx x.op u.1 v.1 = some ((Zkx x.op u.1 v.1).getD false) := fun u0 v0 => by
            rw [u0, v0] at h9
            simp only [if_true, opS] at h9
            cases hc : Zkx x.op u.1 v.1 with
            | none => rw [hc] at h9; exact absurd rfl h9
            | some w => rfl
          have er : (if u.2 = 0 then if v.2 = 0 then (b2n ((Zkx x.op u.1 v.1).getD false), 0) else v else u) = (if u.2 = 0 then if v.2 = 0 then opS x.op u.1 v.1 else v else u) := by
            split
            · split
              · rename_i u0 v0
                have := ho u0 v0
                simp only [opS]
                rw [this]; rfl
              · rfl
            · rfl
          rw [← er] at hq
          clear er h9
          have vb : ∀ {K : List (Nat × D)} {h : H} {Q : D → H → Prop} {R : Y1}, hget h.mem l = some (Zu0 de env lm) → hget h.mem lm = some (KV K) → KC es env K → l < h.next → lm < h.next → (∀ h' K', h.next ≤ h'.next → Z1v h h' lm → hget h'.mem lm = some (KV K') → KC es env K' → Q (.agg (WJ (if u.2 = 0 then if v.2 = 0 then (b2n ((Zkx x.op u.1 v.1).getD false), 0) else v else u))) h') → VC E T 302 [.ptr l 0, .agg [.int .i64 (.ofNat 3), .str x.op, .int .u64 (.ofNat x.n), .str x.nm, dk]] h Q R := fun a1 a2 a3 a4 a5 a6 => vc302 h301 h340 h319 h302 hk vi vj hu hv u9 v9 ho a1 a2 a3 a4 a5 h7 a6
          clear ho u9 v9 vi vj hu hv hi hj hkk hx hw
          generalize (if u.2 = 0 then if v.2 = 0 then (b2n ((Zkx x.op u.1 v.1).getD false), 0) else v else u) = w at hq vb
          simp only [WJ] at hq vb
          refine Zp h276 ?_
          unfold Zs
          repeat' (with_reducible (first | refine Za ?_ | refine Zb ?_ | refine Zk ?_ | refine Zj ?_ | refine Zd ?_ | refine Z3 ?_ | refine Zc ?_ | refine Zl ?_ | refine Z9 ?_ | refine Z4 ?_ | refine Ze ?_ | refine vb (K := K) ?_ ?_ h4 ?_ ?_ ?_ | simp (maxSteps := 2000000) (disch := first | assumption | omega | (simp only [Z1, Z0, List.length_cons, List.length_nil, List.length_append, List.length_take, List.length_drop]; omega) | fail) only [go_sem, -Int.reduceOfNat, *, k3, WJ, Z1v] | ((first | refine Zn ?_ ?_ | refine Zh ?_ ?_ | refine Zm ?_ ?_ | refine Zf ?_ ?_ | refine Zg ?_ ?_ | refine Z5 ?_ ?_) <;> intro _) | (show Q _ _; refine hq _ K1 ?_ ?_ ?_ ?_) | (rintro h1 K1 n1 f1 m1 kc1) | assumption | exact trivial | (show _ < _; omega) | (show _ ≤ _; omega) | (show ¬ (_ : Nat) = _; omega) | (show (_ : Nat) ≠ _; omega) | (show (_ : Nat) = _; omega) | (intro _; intros) | (refine ⟨_, by assumption, ?_⟩) | refine And.intro ?_ ?_))
  · exact absurd (by simp only [Zfy, hx, k0, k1, k3, if_false]) h9
theorem Z3d {n : Nat} {z d : D} {K : List (Nat × D)} {h : H} (hk : X0 (.int .i64 (.ofNat n)) (Zx9 K) = some (some d)) : lkT (some (KV K)) z n h = .ok (.tup [d, .v (.bool true)]) h := by
  simp only [lkT, KV, hk]
theorem Z0i {n : Nat} {z : D} {K : List (Nat × D)} {h : H} (hk : X0 (.int .i64 (.ofNat n)) (Zx9 K) = some none) : lkT (some (KV K)) z n h = .ok (.tup [z, .v (.bool false)]) h := by
  simp only [lkT, KV, hk]
theorem Z29 {n l : Nat} {d : D} {K K' : List (Nat × D)} (hk : VJ (.int .i64 (.ofNat n)) d (Zx9 K) = some (Zx9 K')) {h : H} : msT (some (KV K)) l n d h = .ok ZT (YX h l (KV K')) := by
  simp only [msT, KV, hk]
theorem vc234 (h301 : T 301 = Zty) (h340 : T 340 = Zw8) (h319 : T 319 = Zzs) (h302 : T 302 = Z20) (h300 : T 300 = Xb Zct) (h276 : T 276 = q276) (h234 : T 234 = q234) (hw : WFe es) (hl : env.length ≤ 1000000) (hE : UC XER 5 de es) : ∀ a : Nat, VN E T es env de a := by
  intro a
  induction a using Nat.strongRecOn with
  | ind a ih =>
  intro l lm h K Q R h9 h2 h3 h4 h5 h6 h7 hq
  have he1 := Zfg env
  have he2 := Zba env
  cases hx : es[a]? with
  | none => exact absurd (by simp only [Zfy, hx]) h9
  | some x =>
  obtain ⟨c, r, hc, hz, hix⟩ := Zbj hE (by decide) hx
  obtain ⟨dk, rfl, hk⟩ := hc
  have hdc := Zy hk
  have hdo := ZP hk
  have hdd := Zy hE
  have hde := ZP hE
  have vf : ∀ {K : List (Nat × D)} {h : H} {Q : D → H → Prop} {R : Y1}, hget h.mem l = some (Zu0 de env lm) → hget h.mem lm = some (KV K) → KC es env K → l < h.next → lm < h.next → NQ es env lm a h Q → VC E T 276 [.ptr l 0, .agg [.int .i64 (.ofNat x.k), .str x.op, .int .u64 (.ofNat x.n), .str x.nm, dk]] h Q R := fun a1 a2 a3 a4 a5 a6 => vc276 h301 h340 h319 h302 h300 h276 hw hl hx (fun j hj => ih j (hw a x hx j hj)) hk h9 a1 a2 a3 a4 a5 h7 a6
  clear ih hx hw hz hE hk
  have hset := fun (K : List (Nat × D)) (hK : KC es env K) => Zq8 (n := a) hK
  rcases Zox (n := a) h4 with hm | hm
  · unfold NQ at hq vf
    generalize Zfy es env (a + 1) a = w at *
    simp only [WJ] at hq vf hset
    refine Zp h234 ?_
    unfold Zs
    repeat' (with_reducible (first | refine Za ?_ | refine Zb ?_ | refine Zk ?_ | refine Zj ?_ | refine Zd ?_ | refine Z3 ?_ | refine Zc ?_ | refine Zl ?_ | refine Z9 ?_ | refine Z4 ?_ | refine Ze ?_ | refine vf (K := K) ?_ ?_ h4 ?_ ?_ ?_ | simp (maxSteps := 2000000) (disch := first | assumption | omega | (simp only [Z1, Z0, List.length_cons, List.length_nil, List.length_append, List.length_take, List.length_drop]; omega) | fail) only [go_sem, -Int.reduceOfNat, *, WJ, Z1v, Zok, Z0i, Zxc] | ((first | refine Zn ?_ ?_ | refine Zh ?_ ?_ | refine Zm ?_ ?_ | refine Zf ?_ ?_ | refine Zg ?_ ?_ | refine Z5 ?_ ?_) <;> intro _) | (show Q _ _; refine hq _ K2 ?_ ?_ ?_ ?_) | (rintro h1 K1 n1 f1 m1 kc1; obtain ⟨K2, s2, kc2⟩ := hset K1 kc1; have s3 := fun l h => Z29 (l := l) (h := h) s2; clear s2) | assumption | exact trivial | (show _ < _; omega) | (show _ ≤ _; omega) | (show ¬ (_ : Nat) = _; omega) | (show (_ : Nat) ≠ _; omega) | (show (_ : Nat) = _; omega) | (intro _; intros) | (refine ⟨_, by assumption, ?_⟩) | refine And.intro ?_ ?_))
  · clear vf hset
    unfold NQ at hq
    generalize Zfy es env (a + 1) a = w at *
    have lkh := fun z (h : H) => Z3d (z := z) (h := h) hm
    simp only [WJ] at hq hm lkh
    refine Zp h234 ?_
    unfold Zs
    repeat' (with_reducible (first | refine Za ?_ | refine Zb ?_ | refine Zk ?_ | refine Zj ?_ | refine Zd ?_ | refine Z3 ?_ | refine Zc ?_ | refine Zl ?_ | refine Z9 ?_ | refine Z4 ?_ | refine Ze ?_ | simp (maxSteps := 2000000) (disch := first | assumption | omega | (simp only [Z1, Z0, List.length_cons, List.length_nil, List.length_append, List.length_take, List.length_drop]; omega) | fail) only [go_sem, -Int.reduceOfNat, *, WJ, Z1v, Zok] | ((first | refine Zn ?_ ?_ | refine Zh ?_ ?_ | refine Zm ?_ ?_ | refine Zf ?_ ?_ | refine Zg ?_ ?_ | refine Z5 ?_ ?_) <;> intro _) | (show Q _ _; refine hq _ K ?_ ?_ ?_ ?_) | assumption | exact trivial | (show _ < _; omega) | (show _ ≤ _; omega) | (show ¬ (_ : Nat) = _; omega) | (show (_ : Nat) ≠ _; omega) | (show (_ : Nat) = _; omega) | (intro _; intros) | (refine ⟨_, by assumption, ?_⟩) | refine And.intro ?_ ?_))
end
end
section
variable {h : H} {Q : D → H → Prop} {R : Y1}
def q125 : Yd := Uz Zs (fun t h => .ok (Gt 4 t) h)
 (Z2 (Z7<|fo (ZC (kD (.int .u64 (.ofNat 0)))) (St 4)<|Z8)
 (Z2 (YY<|Zu (ZC (Gt 0)) (St 8)<|Zu (u1 Zo (Gt 8)) (St 9)<|Zu (u1 (ZL 0) (Gt 9)) (St 10)<|Xj 3 [] 1 (Gt 10) (ZO (Gt 10)) (St 11)<|Zu (u1 Zo (Gt 11)) (St 12)<|Zu (u1 (ZL 0) (Gt 12)) (St 13)<|Xj 6 [] 1 (Gt 13) (ZO (Gt 13)) (St 14)<|Zu (ZC (Gt 1)) (St 15)<|Zu (ZC (Gt 0)) (St 16)<|Zu (u1 Zo (Gt 16)) (St 17)<|Zu (u1 (ZL 1) (Gt 17)) (St 18)<|Xj 11 [0,1,2,3,4,5,6,7] 1 (Gt 18) (ZO (Gt 18)) (St 19)<|Zim 12 [] (ZW 182 [(Gt 14),(Gt 15),(Gt 19)]) (St 20)<|Zu (ZC (Gt 20)) (St 7)<|Zu (u1 (Zc9 0) (Gt 7)) (St 21)<|Zu (u1 (Zc9 1) (Gt 7)) (St 22)<|Zu (ZC (Gt 21)) (St 5)<|Zu (ZC (Gt 22)) (St 6)<|YZ)
 (Z2 (Z2 (Z7<|mM 6 23<|fo (mR 26 23 0) (St 24)<|Z8)
 (Zt (Gt 24) (Z7<|mM 0 25<|mN 25 26<|mF 0 26 27<|mL 27 28<|mM 6 29<|mK 57 [(Gt 28),(Gt 29)] 30<|Z8) ZJ))
 (Z2 (Z7<|mM 5 31<|mM 31 4<|Z8)
 ZF))))
structure ET (E : Env) (T : Nat → Yd) (es : List XE) (de : D) : Prop where
  h301 : T 301 = Zty
  h340 : T 340 = Zw8
  h319 : T 319 = Zzs
  h302 : T 302 = Z20
  h300 : T 300 = Xb Zct
  h276 : T 276 = q276
  h234 : T 234 = q234
  h233 : T 233 = Xb (Zhy de es.length)
  h182 : T 182 = q182
  wf : WFe es
  row : UC XER 5 de es
  same : D.same de de = true
  nl : ∀ cs h ox oy, Zfu E YD .eql 23 ox oy (.ep cs) (.v (.pointer none)) h = .ok (.v (.bool false)) h
theorem Zrf : ∀ env : Ev, Y6 (Zqu env) (Zqu env) = true
  | [] => rfl
  | (s, n) :: r => by
    show Y6 (.str s :: .int .u64 (.ofNat n) :: Zqu r) (.str s :: .int .u64 (.ofNat n) :: Zqu r) = true
    rw [Y0, Y0, XG, XH, Zrf r]; rfl
theorem Z0z (env : Ev) : D.same (Zqc env) (Zqc env) = true := by
  cases env with
  | nil => rfl
  | cons x r => simp only [Zqc, D.same, Nat.beq_refl, Zrf, Bool.and_self]
section
variable {es : List XE} {env : Ev} {dc ds de dt : D}
theorem vc233 (hT : ET E T es de) {a : Nat} (ha : a < es.length) (hq : Q (.v (.bool true)) h) : VC E T 233 [de, .int .i64 (.ofNat a)] h Q R := Zcj hT.h233 (by
  show VO Q R (bif D.same de de && Nat.blt a es.length then .ok (.v (.bool true)) h else .fail "may")
  have e : Nat.blt a es.length = true := by rw [Nat.blt_eq]; exact ha
  rw [hT.same, e]
  exact hq)
theorem vc182 (hT : ET E T es de) (hl : env.length ≤ 1000000) (hel : es.length ≤ 1000000) {a : Nat} {u : Nat × Nat} (hu : Zfy es env (a + 1) a = u) (h9 : u.2 ≠ 99) (hq : ∀ h', h.next ≤ h'.next → (∀ l, l < h.next → hget h'.mem l = hget h.mem l) → Q (.tup (WJ u)) h') : VC E T 182 [.ep [dc, ds, de, dt], .int .i64 (.ofNat a), Zqc env] h Q R := by
  have ha : a < es.length := by
    cases hx : es[a]? with
    | none => exact absurd (by rw [← hu]; simp only [Zfy, hx]) h9
    | some x => exact (List.getElem?_eq_some_iff.1 hx).1
  have he1 := Zfg env
  have he2 := Zba env
  have hdd := Zy hT.row
  have hde := ZP hT.row
  have hln := hT.row.len
  have hnl := hT.nl
  have hnode : VN E T es env de a := vc234 hT.h301 hT.h340 hT.h319 hT.h302 hT.h300 hT.h276 hT.h234 hT.wf hl hT.row a
  have hnd : ∀ {l lm : Nat} {h : H} {Q : D → H → Prop} {R : Y1}, hget h.mem l = some (Zu0 de env lm) → hget h.mem lm = some (.map []) → l < h.next → lm < h.next → l ≠ lm → (∀ h', h.next ≤ h'.next → Z1v h h' lm → Q (.agg (WJ u)) h') → VC E T 234 [.ptr l 0, .int .i64 (.ofNat a)] h Q R := fun a1 a2 a3 a4 a5 a6 => hnode (K := []) (by rw [hu]; exact h9) a1 a2 KC_nil a3 a4 a5 (fun h' K' b1 b2 b3 b4 => by rw [hu]; exact a6 h' b1 b2)
  simp only [WJ] at hq hnd
  clear hnode hu
  refine Zp hT.h182 ?_
  unfold Zs
  repeat' (with_reducible (first | refine Za ?_ | refine Zb ?_ | refine Zk ?_ | refine Zj ?_ | refine Zd ?_ | refine Z3 ?_ | refine Zc ?_ | refine Zl ?_ | refine Z9 ?_ | refine Z4 ?_ | refine Ze ?_ | refine vc233 hT ha ?_ | refine hnd (lm := h.next) ?_ ?_ ?_ ?_ ?_ ?_ | simp (maxSteps := 2000000) (disch := first | assumption | omega | (simp only [Z1, Z0, List.length_cons, List.length_nil, List.length_append, List.length_take, List.length_drop]; omega) | fail) only [go_sem, -Int.reduceOfNat, *, Z1v] | ((first | refine Zn ?_ ?_ | refine Zh ?_ ?_ | refine Zm ?_ ?_ | refine Zf ?_ ?_ | refine Zg ?_ ?_ | refine Z5 ?_ ?_) <;> intro _) | (show Q _ _; refine hq _ ?_ ?_) | (rintro h1 n1 f1) | assumption | exact trivial | (show _ < _; omega) | (show _ ≤ _; omega) | (show ¬ (_ : Nat) = _; omega) | (show (_ : Nat) ≠ _; omega) | (show (_ : Nat) = _; omega) | (intro _; intros) | (refine ⟨_, by assumption, ?_⟩) | refine And.intro ?_ ?_))
variable {inp : List Nat} {pr ps p e0 n : Nat}
abbrev Zfz (pr : Nat) (env : Ev) : AObj := .cells 190 [.ptr pr 0, Zqc env]
theorem vc125 (hT : ET E T es de) (h57 : T 57 = q57) (h125 : T 125 = q125) (hl : env.length ≤ 1000000) (hel : es.length ≤ 1000000) {a : Nat} {u : Nat × Nat} (hu : Zfy es env (a + 1) a = u) (h9 : u.2 ≠ 99) (hr : hget h.mem pr = some (RC (.ep [dc, ds, de, dt]) inp p e0 n)) (hs : hget h.mem ps = some (Zfz pr env)) (n1 : pr < h.next) (n2 : ps < h.next)
    (h1 : u.2 = 0 → ∀ h', h.next ≤ h'.next → (∀ l, l < h.next → hget h'.mem l = hget h.mem l) → Q (.int .u64 (.ofNat u.1)) h') (h2 : u.2 ≠ 0 → ∀ h', h.next ≤ h'.next → (∀ l, l < h.next → hget h'.mem l = hget h.mem l) → R (Zfv p u.2) h') : VC E T 125 [.ptr ps 0, .int .i64 (.ofNat a)] h Q R := by
  have hev : ∀ {h : H} {Q : D → H → Prop} {R : Y1}, (∀ h', h.next ≤ h'.next → (∀ l, l < h.next → hget h'.mem l = hget h.mem l) → Q (.tup (WJ u)) h') → VC E T 182 [.ep [dc, ds, de, dt], .int .i64 (.ofNat a), Zqc env] h Q R := fun hq => vc182 hT hl hel hu h9 hq
  have he1 := Zfg env
  have he2 := Zba env
  have hsm : D.same (Zqc env) (Zqc env) = true := Z0z env
  simp only [WJ] at hev
  clear hu h9 hl hel hT
  by_cases e : u.2 = 0
  · have hq := h1 e
    clear h1 h2
    refine Zp h125 ?_
    unfold Zs
    repeat' (with_reducible (first | refine Za ?_ | refine Zb ?_ | refine Zk ?_ | refine Zj ?_ | refine Zd ?_ | refine Z3 ?_ | refine Zc ?_ | refine Zl ?_ | refine Z9 ?_ | refine Z4 ?_ | refine Ze ?_ | refine hev ?_ | refine Zpb h57 (fp := .ep [dc, ds, de, dt]) (inp := inp) (p := p) (e0 := e0) (n := n) ?_ ?_ | simp (maxSteps := 2000000) (disch := first | assumption | omega | (simp only [Z1, Z0, List.length_cons, List.length_nil, List.length_append, List.length_take, List.length_drop]; omega) | fail) only [go_sem, -Int.reduceOfNat, *, e] | ((first | refine Zn ?_ ?_ | refine Zh ?_ ?_ | refine Zm ?_ ?_ | refine Zf ?_ ?_ | refine Zg ?_ ?_ | refine Z5 ?_ ?_) <;> intro _) | (show Q _ _; refine hq _ ?_ ?_) | (rintro h1 n1 f1) | assumption | exact trivial | (show _ < _; omega) | (show _ ≤ _; omega) | (show ¬ (_ : Nat) = _; omega) | (show (_ : Nat) ≠ _; omega) | (show (_ : Nat) = _; omega) | (intro _; intros) | (refine ⟨_, by assumption, ?_⟩) | refine And.intro ?_ ?_))
  · have hq := h2 e
    clear h1 h2
    refine Zp h125 ?_
    unfold Zs
    repeat' (with_reducible (first | refine Za ?_ | refine Zb ?_ | refine Zk ?_ | refine Zj ?_ | refine Zd ?_ | refine Z3 ?_ | refine Zc ?_ | refine Zl ?_ | refine Z9 ?_ | refine Z4 ?_ | refine Ze ?_ | refine hev ?_ | refine Zpb h57 (fp := .ep [dc, ds, de, dt]) (inp := inp) (p := p) (e0 := e0) (n := n) ?_ ?_ | simp (maxSteps := 2000000) (disch := first | assumption | omega | (simp only [Z1, Z0, List.length_cons, List.length_nil, List.length_append, List.length_take, List.length_drop]; omega) | fail) only [go_sem, -Int.reduceOfNat, *, e] | ((first | refine Zn ?_ ?_ | refine Zh ?_ ?_ | refine Zm ?_ ?_ | refine Zf ?_ ?_ | refine Zg ?_ ?_ | refine Z5 ?_ ?_) <;> intro _) | (show R _ _; refine hq _ ?_ ?_) | (refine hq _ ?_ ?_) | (rintro h1 n1 f1) | assumption | exact trivial | (show _ < _; omega) | (show _ ≤ _; omega) | (show ¬ (_ : Nat) = _; omega) | (show (_ : Nat) ≠ _; omega) | (show (_ : Nat) = _; omega) | (intro _; intros) | (refine ⟨_, by assumption, ?_⟩) | refine And.intro ?_ ?_))
end
end
section
variable {h : H} {Q : D → H → Prop} {R : Y1}
section
variable {fp : D} {inp : List Nat} {pr p e0 n : Nat}
abbrev FRr (h h' : H) (pr : Nat) : Prop := ∀ x, x < h.next → x ≠ pr → hget h'.mem x = hget h.mem x
theorem vc121 (h57 : T 57 = q57) (h172 : T 172 = q172) (h159 : T 159 = Zhn) (h111 : T 111 = Zia) (h78 : T 78 = Zw7) (h227 : T 227 = Xb Zce) (h171 : T 171 = q171) (h121 : T 121 = q121) {k : Nat} {lit : Bool} (hk : Ue k) (hb : ∀ b ∈ inp, b < 256) (hp : p ≤ e0) (he : e0 ≤ inp.length) (hl : inp.length ≤ 1048576) (hr : hget h.mem pr = some (RC fp inp p e0 n)) (np : pr < h.next) (ho : fp.one = true) (h1 : e0 - p < k → R (Zfv p 20) h) (h2 : k ≤ e0 - p → ∀ h', h.next ≤ h'.next → FRr h h' pr → hget h'.mem pr = some (RC fp inp (p + k) e0 n) → Q (.int .u64 (.ofNat (Zkv lit (sub inp p k)))) h') : VC E T 121 [.ptr pr 0, .int .i64 (.ofNat k), .v (.bool lit)] h Q R := by
  have k8 : k ≤ 8 := by unfold Ue at hk; omega
  have hg : k ≤ e0 - p → ∀ {h : H} {Q : D → H → Prop} {R : Y1}, (∀ h', h.next ≤ h'.next → (∀ l, l < h.next → hget h'.mem l = hget h.mem l) → Q (.tup [.int .u64 (.ofNat (Zkv lit (sub inp p k))), .int .i64 (.ofNat 0)]) h') → VC E T 171 [.str (sub inp p k), .int .i64 (.ofNat 0), .int .i64 (.ofNat k), .v (.bool lit)] h Q R := fun hle h Q R hq => by
    have hsl : (sub inp p k).length = k := by unfold sub; rw [List.length_take, List.length_drop]; omega
    have hbs : ∀ b ∈ sub inp p k, b < 256 := fun b hx => hb b (List.mem_of_mem_drop (List.mem_of_mem_take hx))
    have := vc171 (E := E) (T := T) (R := R) (h := h) (Q := Q) h159 h111 h78 h227 h171 (s := sub inp p k) (lit := lit) (by rw [hsl]; exact hk) hbs hq
    rw [hsl] at this
    exact this
  clear hb
  refine Zp h121 ?_
  unfold Zs
  repeat' (with_reducible (first | refine Za ?_ | refine Zb ?_ | refine Zk ?_ | refine Zj ?_ | refine Zd ?_ | refine Z3 ?_ | refine Zc ?_ | refine Zl ?_ | refine Z9 ?_ | refine Z4 ?_ | refine Ze ?_ | refine vc172 h57 h172 (fp := fp) (inp := inp) (p := p) (e0 := e0) (n := n) hp he hl ?_ ho ?_ ?_ | refine hg (by assumption) ?_ | simp (maxSteps := 2000000) (disch := first | assumption | omega | (simp only [Z1, Z0, List.length_cons, List.length_nil, List.length_append, List.length_take, List.length_drop]; omega) | fail) only [go_sem, -Int.reduceOfNat, *, XD, FRr] | ((first | refine Zn ?_ ?_ | refine Zh ?_ ?_ | refine Zm ?_ ?_ | refine Zf ?_ ?_ | refine Zg ?_ ?_ | refine Z5 ?_ ?_) <;> intro _) | (exact h1 (by assumption)) | (show Q _ _; refine h2 (by assumption) _ ?_ ?_ ?_) | (intro hle) | (rintro h1 n1 f1) | assumption | exact trivial | (show _ < _; omega) | (show _ ≤ _; omega) | (show ¬ (_ : Nat) = _; omega) | (show (_ : Nat) ≠ _; omega) | (show (_ : Nat) = _; omega) | (intro _; intros) | (refine ⟨_, by assumption, ?_⟩) | refine And.intro ?_ ?_))
end
end
end Run
end
end Go.Abs
