/- The law ElfReads: walk. -/
import Derived.Test.YthifolidfjpdkaaGreatDoorRgF
set_option linter.unusedVariables false
set_option linter.unusedSimpArgs false
namespace Go.Abs
noncomputable section
namespace Run
variable {E : Env} {T : Nat → ZV}
set_option maxHeartbeats 4000000
set_option maxRecDepth 100000
attribute [local go_sem] Zc2 Ud Zc3 Ub Uj Ua Ug Zc1 Uf Ue Zc0 XJ Ul XG Uh WM XH Ym WN UY Un WL Ui Uk Um WO YN WQ Zam Wq Wp Uc Vw Vx Zc5 Zc6 Uo Ut Ur XL XK Yn Uq Up Zc4 WR Uv Us Uu WS Zar Zap Zas Zao Vz Zaq VA Zat Vy VB Zc7 Zau Zc9 Uw Zc8 Zir Zis Zip Ziq Zes Zet UG UF UH UJ UI UK Zdh Zdg V7 V8 V6 Zda VI VJ VH V4 UA XU V1 V3 XV XW UD UC UB XR YX Wg Uy Zdd Zez Zps X0 YZ VE Za8 XX V0 Y0 ZH X2 Ys WI patch Yq Yr YW YV Wc Wb Xj Xk XD V9 Wa X3 Yv YY XY Xt X1 Yp ZN Yt mem_cons Zdf Zdc YT Option.map_some Option.map_none V5 Wx Wz Wy Za9 VG Ww VF YO YP X9 X4 Xa Wd X5 X8 X6 Yw X7 WX XP WZ WU Uz WV WY WW XQ XO YG Wo WH Zgx Zcp Zcy Zbp Zdj Zq7 Xi Xz Va WB Yo YU Yu Y1 ZU YH ZW Xm List.drop_succ_cons List.drop_zero List.drop_nil List.take_succ_cons List.take_zero List.take_nil List.length_cons List.length_nil List.length_append List.cons_append List.nil_append Nat.reduceAdd Nat.reduceEqDiff Nat.reduceLeDiff Nat.reduceLT List.cons.injEq reduceCtorEq eq_self not_true_eq_false not_false_eq_true and_false false_and true_or or_true decide_true decide_false Bool.and_self Bool.and_true Bool.true_and Bool.true_or Bool.or_true Bool.false_or Bool.or_false Bool.false_and Bool.and_false Bool.not_true Bool.not_false cond_true cond_false true_and and_true Zah Zde Zdi reduceIte Nat.add_zero Nat.zero_add Nat.add_sub_cancel Nat.reduceMul Nat.reduceSub Nat.reduceBEq List.map_cons List.map_nil Z8 Z7 Y2 Zi Zb Z9 Ws Zeu Wk ZY ZL Wu Wt XN XM and_assoc exists_and_left D.str.injEq Nat.lt_irrefl Nat.not_lt_zero true_implies false_implies implies_true forall_const ge_iff_le gt_iff_lt Nat.sub_zero List.append_assoc Option.some.injEq AObj.cells.injEq D.int.injEq D.ptr.injEq Int.ofNat.injEq exists_eq_left' D.v.injEq Value.bool.injEq D.agg.injEq Nat.mul_one Zja Zp8
variable {h : H} {Q : D → H → Prop} {R : ZM}
def q3 : ZV := Zbg Zf (fun t h => .ok (Gt 2 t) h)
 (Z0 (Z1<|fo (Zh (kD (.v (.bool false)))) (St 2)<|Z2)
 (Z0 (Z1<|mK 6 [] 16<|mK 5 [(Gt 16)] 17<|mM 17 15<|mE 0 15 18<|mE 1 15 19<|mE 2 15 20<|fo (Zo 25 [(.int .i64 (.ofNat 0)),(.int .i64 (.ofNat 0))]) (St 4)<|mM 18 3<|fo (ZF 2 (Gt 4) (Gt 19)) p0<|mM 20 5<|Z2)
 (Z0 (Z1<|mM 0 22<|mK 7 [(Gt 22)] 23<|mM 23 21<|mE 0 21 24<|mE 1 21 25<|mM 24 6<|mM 25 7<|Z2)
 (Z0 (Z1<|mM 6 26<|mK 8 [(Gt 26)] 27<|mM 27 8<|Z2)
 (Z0 (Z1<|mM 3 29<|mM 8 30<|mK 9 [(Gt 29),(Gt 30)] 31<|mM 31 28<|mE 0 28 32<|mE 1 28 33<|mE 2 28 34<|fo (Zo 39 [(.int .i64 (.ofNat 0)),(.int .u64 (.ofNat 0)),(.str []),(.v (.slice none 0 0))]) (St 9)<|fo (ZF 4 (Gt 9) (Gt 32)) p0<|mM 33 10<|mM 34 11<|Z2)
 (Z0 (Z0 (Z1<|mK 10 [] 35<|fo (u1 (Ze7 .not) (Gt 35)) (St 36)<|mM 36 37<|Yl (Gt 37) false (Zh (Gt 5)) (St 38)<|Yl (Gt 37) false (mR 26 38 0) (St 39)<|fo (Yb (Gt 37) (kD (.v (.bool true))) (Gt 39)) (St 40)<|mM 40 41<|Yl (Gt 41) false (Zh (Gt 11)) (St 42)<|Yl (Gt 41) false (mR 26 42 0) (St 43)<|fo (Yb (Gt 41) (kD (.v (.bool true))) (Gt 43)) (St 44)<|mM 44 45<|Yl (Gt 45) false (u1 (Zt 3) (Gt 9)) (St 46)<|Yl (Gt 45) false (Zl (Gt 46)) (St 47)<|Yl (Gt 45) false (u1 Yy (Gt 47)) (St 48)<|Yl (Gt 45) false (mR 3 48 21) (St 49)<|fo (Yb (Gt 45) (kD (.v (.bool true))) (Gt 49)) (St 50)<|mM 50 51<|Yl (Gt 51) false (u1 (Zt 3) (Gt 9)) (St 52)<|Yl (Gt 51) false (Zl (Gt 52)) (St 53)<|Yl (Gt 51) false (u2 (ZZ 4) (Gt 53) (kI 19)) (St 54)<|Yl (Gt 51) false (u1 (Zt 3) (Gt 54)) (St 55)<|Yl (Gt 51) false (Zl (Gt 55)) (St 56)<|Yl (Gt 51) false (u1 Yy (Gt 56)) (St 57)<|Yl (Gt 51) false (Zh (Gt 6)) (St 58)<|Yl (Gt 51) false (u1 Yy (Gt 58)) (St 59)<|Yl (Gt 51) false (Za Wo .neq 3 (.tmp 57) (.tmp 59) (Gt 57) (Gt 59)) (St 60)<|fo (Yb (Gt 51) (kD (.v (.bool true))) (Gt 60)) (St 61)<|mM 61 62<|Yl (Gt 62) false (u1 (Zt 3) (Gt 9)) (St 63)<|Yl (Gt 62) false (Zl (Gt 63)) (St 64)<|Yl (Gt 62) false (u2 (ZZ 4) (Gt 64) (kI 20)) (St 65)<|Yl (Gt 62) false (u1 (Zt 3) (Gt 65)) (St 66)<|Yl (Gt 62) false (Zl (Gt 66)) (St 67)<|Yl (Gt 62) false (u1 Yy (Gt 67)) (St 68)<|Yl (Gt 62) false (Zh (Gt 8)) (St 69)<|Yl (Gt 62) false (u1 Vm (Gt 69)) (St 70)<|Yl (Gt 62) false (Za Zff .sub 3 (.tmp 70) (.const (.int .i64 (.ofNat 64))) (Gt 70) (kI 64)) (St 71)<|Yl (Gt 62) false (Za Wo .neq 3 (.tmp 68) (.tmp 71) (Gt 68) (Gt 71)) (St 72)<|fo (Yb (Gt 62) (kD (.v (.bool true))) (Gt 72)) (St 73)<|Z2)
 (Zg (Gt 73) (Z0 (Z1<|fo (Zh (kD (.v (.bool false)))) (St 2)<|Z2)
 Zv) Zx))
 (Z0 (Z0 (Z1<|mF 3 9 74<|mL 74 75<|fo (u2 (ZZ 4) (Gt 75) (kI 19)) (St 76)<|mF 3 76 77<|mL 77 78<|fo (u1 Yy (Gt 78)) (St 79)<|fo (Zh (kI 0)) (St 80)<|Z2)
 (ZA 0 (Xy (Z0 (Z1<|fo (Za WH .lss 3 (.tmp 80) (.tmp 79) (Gt 80) (Gt 79)) (St 81)<|Z2)
 (Z0 (Zg (Gt 81) Zx (Vi 0))
 (Z0 (ZA 1 (Z0 (Z1<|mM 80 82<|fo (u2 (ZZ 4) (Gt 78) (Gt 80)) (St 83)<|fo (YB 4 (Gt 83)) (St 84)<|fo (Zo 39 [(.int .i64 (.ofNat 0)),(.int .u64 (.ofNat 0)),(.str []),(.v (.slice none 0 0))]) (St 13)<|mM 82 12<|fo (ZF 4 (Gt 13) (Gt 84)) p0<|Z2)
 (Z0 (Z0 (Xf<|Ze (u1 (Zt 3) (Gt 13)) (St 85)<|Xw 1 [] 1 (Gt 85) (Zl (Gt 85)) (St 86)<|Ze (u1 Yy (Gt 86)) (St 87)<|Ze (mR 3 87 11) (St 88)<|Ze (Zh (Gt 88)) (St 89)<|Zfv (Gt 89) false (Ze (u1 (Zt 3) (Gt 13)) (St 90)) (St 90)<|Zfv (Gt 89) false (Xw 6 [] 1 (Gt 90) (Zl (Gt 90)) (St 91)) (St 91)<|Zfv (Gt 89) false (Ze (u2 (ZZ 4) (Gt 91) (kI 1)) (St 92)) (St 92)<|Zfv (Gt 89) false (Ze (u1 (Zt 1) (Gt 92)) (St 93)) (St 93)<|Zfv (Gt 89) false (Xw 9 [] 1 (Gt 93) (Zl (Gt 93)) (St 94)) (St 94)<|Zfv (Gt 89) false (Ze (Zh (Gt 6)) (St 95)) (St 95)<|Zfv (Gt 89) false (Ze (Zh (Gt 12)) (St 96)) (St 96)<|Zfv (Gt 89) false (Ze (u2 (ZZ 2) (Gt 95) (Gt 96)) (St 97)) (St 97)<|Zfv (Gt 89) false (Ze (u1 (Zt 0) (Gt 97)) (St 98)) (St 98)<|Zfv (Gt 89) false (Xw 14 [5,6,7,8,9] 1 (Gt 98) (Zl (Gt 98)) (St 99)) (St 99)<|Zfv (Gt 89) false (Ze (VM .u64 (Gt 99)) (St 100)) (St 100)<|Zfv (Gt 89) false (Ze (Za Wo .neq 36 (.tmp 94) (.tmp 100) (Gt 94) (Gt 100)) (St 101)) (St 101)<|Ze (Yb (Gt 89) (kD (.v (.bool true))) (Gt 101)) (St 102)<|Xg)
 (Zg (Gt 102) (Z0 (Z1<|fo (Zh (kD (.v (.bool false)))) (St 2)<|Z2)
 Zv) Zx))
 (Z0 (Z1<|mM 6 103<|mM 12 104<|fo (u2 (ZZ 2) (Gt 103) (Gt 104)) (St 105)<|mF 1 105 106<|mL 106 107<|mK 11 [(Gt 107)] 108<|fo (Zo 39 [(.int .i64 (.ofNat 0)),(.int .u64 (.ofNat 0)),(.str []),(.v (.slice none 0 0))]) (St 14)<|fo (ZF 4 (Gt 14) (Gt 108)) p0<|Z2)
 (Z0 (Z0 (Z1<|mM 6 109<|mM 12 110<|fo (u2 (ZZ 2) (Gt 109) (Gt 110)) (St 111)<|mF 0 111 112<|mL 112 113<|fo (Za YG .eql 43 (.tmp 113) (.const (.int .u32 (.ofNat 0))) (Gt 113) (kD (.int .u32 (.ofNat 0)))) (St 114)<|mM 114 115<|Yl (Gt 115) false (Zh (Gt 6)) (St 116)<|Yl (Gt 115) false (Zh (Gt 12)) (St 117)<|Yl (Gt 115) false (u2 (ZZ 2) (Gt 116) (Gt 117)) (St 118)<|Yl (Gt 115) false (u1 (Zt 0) (Gt 118)) (St 119)<|Yl (Gt 115) false (Zl (Gt 119)) (St 120)<|Yl (Gt 115) false (Za YG .eql 43 (.tmp 120) (.const (.int .u32 (.ofNat 8))) (Gt 120) (kD (.int .u32 (.ofNat 8)))) (St 121)<|fo (Yb (Gt 115) (kD (.v (.bool true))) (Gt 121)) (St 122)<|Z2)
 (Zg (Gt 122) (Z1<|fo (YQ [(.int .i64 (.ofNat 0)),(.int .u64 (.ofNat 0)),(.str []),(.v (.slice none 0 0))] []) (St 123)<|fo (ZF 4 (Gt 14) (Gt 123)) p0<|Z2) Zx))
 (Z0 (Xf<|Ze (u1 (Zt 3) (Gt 13)) (St 124)<|Xw 1 [] 1 (Gt 124) (Zl (Gt 124)) (St 125)<|Ze (u2 (ZZ 4) (Gt 125) (kI 10)) (St 126)<|Xw 3 [] 4 (Gt 126) (YB 4 (Gt 126)) (St 127)<|Xw 4 [0,1,2,3] 4 (Gt 14) (YB 4 (Gt 14)) (St 128)<|Zju 5 [] (Zw 12 [(Gt 127),(Gt 128)]) (St 129)<|Ze (u1 (Ze7 .not) (Gt 129)) (St 130)<|Xg)
 (Zg (Gt 130) (Z0 (Z1<|fo (Zh (kD (.v (.bool false)))) (St 2)<|Z2)
 Zv) Zx)))))))
 (Z1<|fo (Za YS .add 3 (.tmp 80) (.const (.int .i64 (.ofNat 1))) (Gt 80) (kI 1)) (St 131)<|mM 131 80<|Z2)))))))
 (Z0 (Z1<|fo (Zh (kD (.v (.bool true)))) (St 2)<|Z2)
 Zv))))))))
theorem run_any {k : Nat} {ds : List D} {r : D} (hk : T k = YK (Zy ds r)) (hs : ZR ds ds = true) (hq : Q r h) : VC E T k ds h Q R := Zbr hk (by
  show VO Q R (bif ZR ds ds then .ok r h else .fail "another call")
  rw [hs]
  exact hq)
def C7 (d0 : D) (l : List (Nat × List Nat)) : Prop := ∀ {h : H} {Q : D → H → Prop} {R : ZM},(∀ h' x y,h.next ≤ h'.next → (∀ l,l < h.next → hget h'.mem l = hget h.mem l) → isS x (WK l) → Q (.tup [x,y]) h') → VC Zm0 Znp 7 [d0] h Q R
def C8 (l : List (Nat × List Nat)) : Prop := ∀ {x : D} {h : H} {Q : D → H → Prop} {R : ZM},isS x (WK l) → (∀ h',h.next ≤ h'.next → (∀ l,l < h.next → hget h'.mem l = hget h.mem l) → Q (.str (YM (WK l))) h') → VC Zm0 Znp 8 [x] h Q R
section
variable {d0 : D} {l : List (Nat × List Nat)} {Q : D → H → Prop} {R : ZM}
theorem C7.out (hc : C7 d0 l) (hq : ∀ h' x y,h.next ≤ h'.next → (∀ l,l < h.next → hget h'.mem l = hget h.mem l) → isS x (WK l) → Q (.tup [x,y]) h') : VC Zm0 Znp 7 [d0] h Q R := hc hq
theorem C8.out (hc : C8 l) {x : D} (hx : isS x (WK l)) (hq : ∀ h',h.next ≤ h'.next → (∀ l,l < h.next → hget h'.mem l = hget h.mem l) → Q (.str (YM (WK l))) h') : VC Zm0 Znp 8 [x] h Q R := hc hx hq
end
end Run
end
end Go.Abs
