/- Reading: small functions: walks of the program. -/
import Derived.Test.YthifolidfjpdkaaGreatDoorRdS
import Derived.Test.YthifolidfjpdkaaGreatDoorReA
set_option linter.unusedVariables false
set_option linter.unusedSimpArgs false
namespace Go.Abs
noncomputable section
namespace Run
variable {E : Env} {T : Nat → ZV}
set_option maxHeartbeats 4000000
set_option maxRecDepth 100000
theorem Zy9 {G : Prop} (g : G := by
  repeat' (with_reducible (first | refine zc ?_ | simp (maxSteps := 2000000) (disch := first | exact zd | fail) only [go_sem, -Int.reduceOfNat, *,Z7z,bShl,bOr,Wj,YH] | (refine zb ?_ ?_ <;> intro _) | (refine ⟨m - 1,by omega, ?_⟩) | exact ze | (intro _; intros) | (refine ⟨_,by assumption, ?_⟩) | refine And.intro ?_ ?_))) : G := g
attribute [local go_sem] Zc2 Ud Zc3 Ub Uj Ua Ug Zc1 Uf Ue Zc0 XJ Ul XG Uh WM XH Ym WN UY Un WL Ui Uk Um WO YN WQ Zam Wq Wp Uc Vw Vx Zc5 Zc6 Uo Ut Ur XL XK Yn Uq Up Zc4 WR Uv Us Uu WS Zar Zap Zas Zao Vz Zaq VA Zat Vy VB Zc7 Zau Zc9 Uw Zc8 Zir Zis Zip Ziq Zes Zet UG UF UH UJ UI UK Zdh Zdg V7 V8 V6 Zda VI VJ VH V4 UA XU V1 V3 XV XW UD UC UB XR YX Wg Uy Zdd Zez Zps X0 YZ VE Za8 XX V0 Y0 ZH X2 Ys WI patch Yq Yr YW YV Wc Wb Xj Xk XD V9 Wa X3 Yv YY XY Xt X1 Yp ZN Yt mem_cons Zdf Zdc YT Option.map_some Option.map_none V5 Wx Wz Wy Za9 VG Ww VF YO YP X9 X4 Xa Wd X5 X8 X6 Yw X7 WX XP WZ WU Uz WV WY WW XQ XO YG Wo WH Zgx Zcp Zcy Zbp Zdj Zq7 Xi Xz Va WB Yo YU Yu Y1 ZU YH ZW Xm List.drop_succ_cons List.drop_zero List.drop_nil List.take_succ_cons List.take_zero List.take_nil List.length_cons List.length_nil List.length_append List.cons_append List.nil_append Nat.reduceAdd Nat.reduceEqDiff Nat.reduceLeDiff Nat.reduceLT List.cons.injEq reduceCtorEq eq_self not_true_eq_false not_false_eq_true and_false false_and true_or or_true decide_true decide_false Bool.and_self Bool.and_true Bool.true_and Bool.true_or Bool.or_true Bool.false_or Bool.or_false Bool.false_and Bool.and_false Bool.not_true Bool.not_false cond_true cond_false true_and and_true Zah Zde Zdi reduceIte Nat.add_zero Nat.zero_add Nat.add_sub_cancel Nat.reduceMul Nat.reduceSub Nat.reduceBEq List.map_cons List.map_nil Z8 Z7 Y2 Zi Zb Z9 Ws Zeu Wk ZY ZL Wu Wt XN XM and_assoc exists_and_left D.str.injEq Nat.lt_irrefl Nat.not_lt_zero true_implies false_implies implies_true forall_const ge_iff_le gt_iff_lt Nat.sub_zero List.append_assoc Option.some.injEq AObj.cells.injEq D.int.injEq D.ptr.injEq Int.ofNat.injEq exists_eq_left' D.v.injEq Value.bool.injEq D.agg.injEq Nat.mul_one
variable {h : H} {Q : D → H → Prop} {R : ZM}
def q57 : ZV := Zbg Zf (fun t h => .ok (.tup []) h)
 (Z1<|mM 0 4<|mN 4 5<|mF 2 5 6<|mL 6 7<|mM 1 8<|fo (YQ [(.int .i64 (.ofNat 0)),(.int .i64 (.ofNat 0))] [(0,1,(Gt 7)),(1,1,(Gt 8))]) (St 9)<|fo (u1 (U5 143) (Gt 9)) (St 10)<|fo (u1 US (Gt 10)) p0<|Z2)
def q85 : ZV := Zbg Zf (fun t h => .ok (.tup []) h)
 (Z0 (Z0 (Z1<|mM 0 2<|mN 2 3<|mF 4 3 4<|mL 4 5<|fo (Za Zcy .geq 3 (.tmp 5) (.const (.int .i64 (.ofNat 1048576))) (Gt 5) (kI 1048576)) (St 6)<|Z2)
 (Zg (Gt 6) (Z1<|mM 0 7<|mK 57 [(Gt 7),(kI 10)] 8<|Z2) Zx))
 (Z1<|mM 0 9<|mN 9 10<|mF 4 10 11<|mL 11 12<|fo (Za YS .add 3 (.tmp 12) (.const (.int .i64 (.ofNat 1))) (Gt 12) (kI 1)) (St 13)<|mN 9 14<|mF 4 14 15<|mS 15 (Gt 13)<|Z2))
def q172 : ZV := Zbg Zf (fun t h => .ok (Gt 4 t) h)
 (Z0 (Z1<|fo (Zh (kS [])) (St 4)<|Z2)
 (Z0 (Z0 (Xf<|Ze (Zh (Gt 1)) (St 5)<|Ze (Zh (Gt 0)) (St 6)<|Ze (u1 Z4 (Gt 6)) (St 7)<|Ze (u1 (Zt 3) (Gt 7)) (St 8)<|Xw 4 [0] 1 (Gt 8) (Zl (Gt 8)) (St 9)<|Ze (Zh (Gt 0)) (St 10)<|Ze (u1 Z4 (Gt 10)) (St 11)<|Ze (u1 (Zt 2) (Gt 11)) (St 12)<|Xw 8 [0,1,2,3,4] 1 (Gt 12) (Zl (Gt 12)) (St 13)<|Ze (Za Zff .sub 3 (.tmp 9) (.tmp 13) (Gt 9) (Gt 13)) (St 14)<|Ze (VM .u64 (Gt 14)) (St 15)<|Ze (Za Zcp .gtr 36 (.tmp 5) (.tmp 15) (Gt 5) (Gt 15)) (St 16)<|Xg)
 (Zg (Gt 16) (Z1<|mM 0 17<|mK 57 [(Gt 17),(kI 20)] 18<|Z2) Zx))
 (Z0 (Z1<|mM 0 19<|mN 19 20<|mF 2 20 21<|mL 21 22<|mM 1 23<|fo (VM .i64 (Gt 23)) (St 24)<|fo (Za YS .add 3 (.tmp 22) (.tmp 24) (Gt 22) (Gt 24)) (St 25)<|mN 19 26<|mF 2 26 27<|mS 27 (Gt 25)<|Z2)
 (Z0 (Xf<|Ze (Zh (Gt 0)) (St 28)<|Ze (u1 Z4 (Gt 28)) (St 29)<|Ze (u1 (Zt 1) (Gt 29)) (St 30)<|Xw 3 [] 1 (Gt 30) (Zl (Gt 30)) (St 31)<|Ze (Zh (Gt 0)) (St 32)<|Ze (u1 Z4 (Gt 32)) (St 33)<|Ze (u1 (Zt 2) (Gt 33)) (St 34)<|Xw 7 [0,1,2,3] 1 (Gt 34) (Zl (Gt 34)) (St 35)<|Ze (Zh (Gt 1)) (St 36)<|Ze (VM .i64 (Gt 36)) (St 37)<|Ze (Za Zff .sub 3 (.tmp 35) (.tmp 37) (Gt 35) (Gt 37)) (St 38)<|Ze (Zh (Gt 0)) (St 39)<|Ze (u1 Z4 (Gt 39)) (St 40)<|Ze (u1 (Zt 2) (Gt 40)) (St 41)<|Xw 14 [0,1,2,3,4,5,6,7,8,9,10] 1 (Gt 41) (Zl (Gt 41)) (St 42)<|Ze (Zcv (Gt 31) (some (Gt 38)) (some (Gt 42))) (St 43)<|Ze (Zh (Gt 43)) (St 4)<|Xg)
 Zv))))
def q171 : ZV := Zbg Zf (fun t h => .ok (.tup [(Gt 8) t,(Gt 9) t]) h)
 (Z0 (Z1<|fo (Zh (kD (.int .u64 (.ofNat 0)))) (St 8)<|fo (Zh (kI 0)) (St 9)<|Z2)
 (Z0 (ZA 0 (Z0 (Z1<|mM 2 15<|mK 78 [(Gt 15)] 16<|fo (u1 (Ze7 .not) (Gt 16)) (St 17)<|mM 17 14<|Z2)
 (Zg (Gt 14) (Z0 (Z1<|fo (Zh (kD (.int .u64 (.ofNat 0)))) (St 8)<|fo (Zh (kI 2)) (St 9)<|Z2)
 Zv) (Z0 (Z1 <| mM 1 19 <| fo (Za WH .lss 3 (.tmp 19) (.const (.int .i64 (.ofNat 0))) (Gt 19) (kI 0)) (St 20) <| mM 20 21 <| Yl (Gt 21) false (Zh (Gt 1)) (St 22) <| Yl (Gt 21) false (Zh (Gt 0)) (St 23) <| Yl (Gt 21) false (u1 Vm (Gt 23)) (St 24) <| Yl (Gt 21) false (Zh (Gt 2)) (St 25) <| Yl (Gt 21) false (Za Zff .sub 3 (.tmp 24) (.tmp 25) (Gt 24) (Gt 25)) (St 26) <| Yl (Gt 21) false (Za Zcp .gtr 3 (.tmp 22) (.tmp 26) (Gt 22) (Gt 26)) (St 27) <| fo (Yb (Gt 21) (kD (.v (.bool true))) (Gt 27)) (St 28) <| mM 28 18 <| Z2)
 (Zg (Gt 18) (Z0 (Z1<|fo (Zh (kD (.int .u64 (.ofNat 0)))) (St 8)<|fo (Zh (kI 3)) (St 9)<|Z2)
 Zv) Zx)))))
 (Z0 (Z1<|mM 0 29<|mM 1 30<|mM 1 31<|mM 2 32<|fo (Za YS .add 3 (.tmp 31) (.tmp 32) (Gt 31) (Gt 32)) (St 33)<|fo (Zcv (Gt 29) (some (Gt 30)) (some (Gt 33))) (St 34)<|mM 34 10<|Z2)
 (Z0 (Z0 (Z1<|mM 3 35<|Z2)
 (Zg (Gt 35) (Z1<|mM 10 36<|mK 227 [(Gt 36)] 37<|mM 37 10<|Z2) Zx))
 (Z0 (Z1<|fo (Zh (kD (.int .u64 (.ofNat 0)))) (St 11)<|Z2)
 (Z0 (Z0 (Z1<|mM 10 38<|fo (u1 (Zn4 5) (Gt 38)) (St 39)<|fo (u1 Yy (Gt 39)) (St 40)<|fo (Zh (kI 0)) (St 41)<|Z2)
 (ZA 1 (Xy (Z0 (Z1<|fo (Za WH .lss 3 (.tmp 41) (.tmp 40) (Gt 41) (Gt 40)) (St 42)<|Z2)
 (Z0 (Zg (Gt 42) Zx (Vi 1))
 (Z0 (ZA 2 (Z0 (Z1<|fo (u2 (ZZ 1) (Gt 39) (Gt 41)) (St 43)<|mL 43 44<|mM 44 13<|Z2)
 (Z1<|mM 11 45<|fo (Zr7 .shl 36 (.tmp 45) (.const (.int .u64 (.ofNat 8))) (Gt 45) (kD (.int .u64 (.ofNat 8)))) (St 46)<|mM 13 47<|fo (VM .u64 (Gt 47)) (St 48)<|fo (Zr7 .or 36 (.tmp 46) (.tmp 48) (Gt 46) (Gt 48)) (St 49)<|mM 49 11<|Z2)))
 (Z1<|fo (Za YS .add 3 (.tmp 41) (.const (.int .i64 (.ofNat 1))) (Gt 41) (kI 1)) (St 50)<|mM 50 41<|Z2)))))))
 (Z0 (Z1<|mM 11 51<|mM 51 8<|fo (Zh (kI 0)) (St 9)<|Z2)
 Zv)))))))
def Z0k : ZV := Zbg Zf (fun t h => .ok (Gt 2 t) h)
 (Z0 (Z1<|fo (Zh (kD (.v (.bool false)))) (St 2)<|Z2)
 (Z0 (Z1<|fo (Xu 3 5 [(.int .i64 (.ofNat 0)),(.int .i64 (.ofNat 0)),(.int .i64 (.ofNat 0)),(.int .i64 (.ofNat 0)),(.int .i64 (.ofNat 0))] [(0,1,(kI 1)),(1,1,(kI 2)),(2,1,(kI 3)),(3,1,(kI 4)),(4,1,(kI 8))]) (St 3)<|mM 0 4<|mK 111 [(Gt 3),(Gt 4)] 5<|mM 5 2<|Z2)
 Zv))
def Zj9 : ZV := Zbg Zf (fun t h => .ok (Gt 4 t) h)
 (Z0 (Z1<|fo (Zh (kD (.v (.bool false)))) (St 4)<|Z2)
 (Z0 (Z1<|mM 0 5<|mM 1 6<|mK 159 [(Gt 5),(Gt 6)] 7<|fo (Za Zcy .geq 3 (.tmp 7) (.const (.int .i64 (.ofNat 0))) (Gt 7) (kI 0)) (St 8)<|mM 8 4<|Z2)
 Zv))
def Zjg : ZV := Zbg Zf (fun t h => .ok (Gt 4 t) h)
 (Z0 (Z1<|fo (Zh (kI 0)) (St 4)<|Z2)
 (Z0 (Z0 (Z1<|mM 0 6<|fo (u1 Yy (Gt 6)) (St 7)<|fo (Zh (kI 0)) (St 8)<|Z2)
 (ZA 0 (Xy (Z0 (Z1<|fo (Za WH .lss 3 (.tmp 8) (.tmp 7) (Gt 8) (Gt 7)) (St 9)<|Z2)
 (Z0 (Zg (Gt 9) Zx (Vi 0))
 (Z0 (ZA 1 (Z0 (Z1<|mM 8 10<|mM 10 5<|Z2)
 (Z0 (Z1<|mM 1 11<|mM 0 12<|mM 5 13<|fo (u2 (ZZ 1) (Gt 12) (Gt 13)) (St 14)<|mL 14 15<|fo (Za YG .eql 3 (.tmp 11) (.tmp 15) (Gt 11) (Gt 15)) (St 16)<|Z2)
 (Zg (Gt 16) (Z0 (Z1<|mM 5 17<|mM 17 4<|Z2)
 Zv) Zx))))
 (Z1<|fo (Za YS .add 3 (.tmp 8) (.const (.int .i64 (.ofNat 1))) (Gt 8) (kI 1)) (St 18)<|mM 18 8<|Z2)))))))
 (Z0 (Z1<|fo (Zh (kD (.int .i64 (.negSucc 0)))) (St 4)<|Z2)
 Zv)))
def q121 : ZV := Zbg Zf (fun t h => .ok (Gt 6 t) h)
 (Z0 (Z1<|fo (Zh (kD (.int .u64 (.ofNat 0)))) (St 6)<|Z2)
 (Z0 (Z1<|mM 0 10<|mM 1 11<|fo (VM .u64 (Gt 11)) (St 12)<|mK 172 [(Gt 10),(Gt 12)] 13<|mM 1 14<|mM 2 15<|mK 171 [(Gt 13),(kI 0),(Gt 14),(Gt 15)] 16<|mM 16 9<|mE 0 9 17<|mE 1 9 18<|mM 17 7<|mM 18 8<|Z2)
 (Z0 (Z1<|mM 7 19<|mM 19 6<|Z2)
 Zv)))
abbrev RC (fp : D) (inp : List Nat) (p e n : Nat) : AObj := .cells 94 [fp,.str inp,.int .i64 (.ofNat p),.int .i64 (.ofNat e),.int .i64 (.ofNat n)]
abbrev Zhb (p e : Nat) : D := .iface 143 (.agg [.int .i64 (.ofNat p),.int .i64 (.ofNat e)])
section
variable {fp : D} {inp : List Nat} {pr p e0 n e : Nat}
theorem Zrx (h57 : T 57 = q57) (hr : hget h.mem pr = some (RC fp inp p e0 n)) (hq : R (Zhb p e) h) : VC E T 57 [.ptr pr 0,.int .i64 (.ofNat e)] h Q R := by
  refine Zd h57 ?_
  unfold Zf
  repeat' (with_reducible (first | refine zc ?_ | simp (maxSteps := 2000000) (disch := first | exact zd | fail) only [go_sem, -Int.reduceOfNat, *] | (refine zb ?_ ?_ <;> intro _) | exact ze | (intro _; intros) | (refine ⟨_,by assumption, ?_⟩) | refine And.intro ?_ ?_))
theorem vc85 (h57 : T 57 = q57) (h85 : T 85 = q85) (hn : n ≤ 1048576) (hr : hget h.mem pr = some (RC fp inp p e0 n)) (ho : fp.one = true) (h1 : 1048576 ≤ n → R (Zhb p 10) h) (h2 : n < 1048576 → Q (.tup []) (YF h pr (RC fp inp p e0 (n + 1)))) : VC E T 85 [.ptr pr 0] h Q R := by
  refine Zd h85 ?_
  unfold Zf
  repeat' (with_reducible (first | refine zc ?_ | refine Zrx h57 (by assumption) ?_ | simp (maxSteps := 2000000) (disch := first | exact zd | fail) only [go_sem, -Int.reduceOfNat, *] | (refine zb ?_ ?_ <;> intro _) | exact h1 (by omega) | exact h2 (by omega) | exact ze | (intro _; intros) | (refine ⟨_,by assumption, ?_⟩) | refine And.intro ?_ ?_))
theorem vc172 (h57 : T 57 = q57) (h172 : T 172 = q172) {k : Nat} (hp : p ≤ e0) (he : e0 ≤ inp.length) (hl : inp.length ≤ 1048576) (hr : hget h.mem pr = some (RC fp inp p e0 n)) (ho : fp.one = true) (h1 : e0 - p < k → R (Zhb p 20) h) (h2 : k ≤ e0 - p → Q (.str (sub inp p k)) (YF h pr (RC fp inp (p + k) e0 n))) : VC E T 172 [.ptr pr 0,.int .u64 (.ofNat k)] h Q R := by
  unfold sub at h2
  refine Zd h172 ?_
  unfold Zf
  repeat' (with_reducible (first | refine zc ?_ | refine Zrx h57 (by assumption) ?_ | simp (maxSteps := 2000000) (disch := first | exact zd | fail) only [go_sem, -Int.reduceOfNat, *,ZW,Wj,Zf8,Z15,Zw0] | (refine zb ?_ ?_ <;> intro _) | exact h1 (by omega) | exact h2 (by omega) | (rw [Nat.add_sub_cancel_left]; exact h2 (by omega)) | exact ze | (intro _; intros) | (refine ⟨_,by assumption, ?_⟩) | refine And.intro ?_ ?_))
end
theorem vc227 (h227 : T 227 = YK Zdu) {s : List Nat} (hs : s.length ≤ 8) (hq : Q (.str s.reverse) h) : VC E T 227 [.str s] h Q R := Zbr h227 (by
  show VO Q R (bif Nat.ble s.length 9223372036854775807 then .ok (.str s.reverse) h else .fail "turn")
  rw [Nat.ble_eq_true_of_le (by omega)]
  exact hq)
def Zax (k : Nat) : Prop := k = 1 ∨ k = 2 ∨ k = 3 ∨ k = 4 ∨ k = 8
abbrev sz5 : List D := [.int .i64 (.ofNat 1),.int .i64 (.ofNat 2),.int .i64 (.ofNat 3),.int .i64 (.ofNat 4),.int .i64 (.ofNat 8)]
theorem vc159 (h159 : T 159 = Zjg) {k id : Nat} (hk : Zax k) (hq : ∀ j : Nat,Q (.int .i64 (.ofNat j)) h) : VC E T 159 [.sl id 5 sz5,.int .i64 (.ofNat k)] h Q R := by
  have i0 : ∀ h,Zci 1 (.sl id 5 sz5) (.int .i64 (.ofNat 0)) h = .ok (.ep [.int .i64 (.ofNat 1),.int .i64 (.ofNat 2),.int .i64 (.ofNat 3),.int .i64 (.ofNat 4),.int .i64 (.ofNat 8)]) h := fun h => UT (by decide) rfl
  have i1 : ∀ h,Zci 1 (.sl id 5 sz5) (.int .i64 (.ofNat 1)) h = .ok (.ep [.int .i64 (.ofNat 2),.int .i64 (.ofNat 3),.int .i64 (.ofNat 4),.int .i64 (.ofNat 8)]) h := fun h => UT (by decide) rfl
  have i2 : ∀ h,Zci 1 (.sl id 5 sz5) (.int .i64 (.ofNat 2)) h = .ok (.ep [.int .i64 (.ofNat 3),.int .i64 (.ofNat 4),.int .i64 (.ofNat 8)]) h := fun h => UT (by decide) rfl
  have i3 : ∀ h,Zci 1 (.sl id 5 sz5) (.int .i64 (.ofNat 3)) h = .ok (.ep [.int .i64 (.ofNat 4),.int .i64 (.ofNat 8)]) h := fun h => UT (by decide) rfl
  have i4 : ∀ h,Zci 1 (.sl id 5 sz5) (.int .i64 (.ofNat 4)) h = .ok (.ep [.int .i64 (.ofNat 8)]) h := fun h => UT (by decide) rfl
  rcases hk with rfl | rfl | rfl | rfl | rfl
  all_goals
    refine Zd h159 ?_
    unfold Zf
    repeat' (with_reducible (first | refine zc ?_ | refine Zan ?_ | simp (maxSteps := 2000000) (disch := first | exact zd | fail) only [go_sem, -Int.reduceOfNat, *] | (refine zb ?_ ?_ <;> intro _) | (show Q _ _; exact hq _) | exact ze | (intro _; intros) | (refine ⟨_,by assumption, ?_⟩) | refine And.intro ?_ ?_))
theorem vc111 (h159 : T 159 = Zjg) (h111 : T 111 = Zj9) {k id : Nat} (hk : Zax k) (hq : Q (.v (.bool true)) h) : VC E T 111 [.sl id 5 sz5,.int .i64 (.ofNat k)] h Q R := by
  refine Zd h111 ?_
  unfold Zf
  repeat' (with_reducible (first | refine zc ?_ | refine vc159 h159 hk ?_ | simp (maxSteps := 2000000) (disch := first | exact zd | fail) only [go_sem, -Int.reduceOfNat, *] | (refine zb ?_ ?_ <;> intro _) | (intro j) | (show Q _ _; exact hq) | exact ze | (intro _; intros) | (refine ⟨_,by assumption, ?_⟩) | refine And.intro ?_ ?_))
theorem Zz0 (h159 : T 159 = Zjg) (h111 : T 111 = Zj9) (h78 : T 78 = Z0k) {k : Nat} (hk : Zax k) (hq : ∀ h',h.next ≤ h'.next → (∀ l,l < h.next → hget h'.mem l = hget h.mem l) → Q (.v (.bool true)) h') : VC E T 78 [.int .i64 (.ofNat k)] h Q R := by
  refine Zd h78 ?_
  unfold Zf
  repeat' (with_reducible (first | refine zc ?_ | refine vc111 h159 h111 hk ?_ | simp (maxSteps := 2000000) (disch := first | exact zd | fail) only [go_sem, -Int.reduceOfNat, *] | (refine zb ?_ ?_ <;> intro _) | (show Q _ _; refine hq _ ?_ ?_) | exact ze | (intro _; intros) | (refine ⟨_,by assumption, ?_⟩) | refine And.intro ?_ ?_))
theorem Zx4 : ∀ (l : List Nat) (n m : Nat),(∀ b ∈ l,b < 256) → n < 256 ^ m → Zwg l n < 256 ^ (m + l.length)
  | [],n,m,h,hn => hn
  | b :: r,n,m,h,hn => by
    have hb := h b (List.mem_cons_self ..)
    have := Zx4 r (n * 256 + b) (m + 1) (fun x hx => h x (List.mem_cons_of_mem _ hx)) (by rw [Nat.pow_succ]; omega)
    rw [Zwg,List.length_cons,show m + (r.length + 1) = m + 1 + r.length by omega]
    exact this
theorem Z2z {n b : Nat} (hn : n < 72057594037927936) (hb : b < 256) : (n * 2 ^ min 8 64 % 18446744073709551616) ||| b = n * 256 + b := by
  rw [show n * 2 ^ min 8 64 % 18446744073709551616 = 2 ^ 8 * n by rw [show min 8 64 = 8 from rfl]; omega,← Nat.two_pow_add_eq_or_of_lt (i := 8) (by omega),Nat.mul_comm]
theorem Zpm : ∀ (l : List Nat) (n b : Nat),Zwg (l ++ [b]) n = Zwg l n * 256 + b
  | [],n,b => rfl
  | x :: r,n,b => by rw [List.cons_append,Zwg,Zpm r]; rfl
theorem Zqe {l : List Nat} {i : Nat} (h : i < l.length) : l.take (i + 1) = l.take i ++ [l.getD i 0] := by
  rw [List.take_add_one,List.getD_eq_getElem?_getD,List.getElem?_eq_getElem h]; rfl
abbrev INum (h : H) (s : List Nat) (m : Nat) (t1 : Tr D) (h1 : H) : Prop :=
  h.next ≤ h1.next ∧ (∀ l,l < h.next → hget h1.mem l = hget h.mem l) ∧ Gt 39 t1 = .sl 0 s.length (Yz s) ∧ Gt 40 t1 = .int .i64 (.ofNat s.length) ∧ ∃ i,Gt 41 t1 = .int .i64 (.ofNat i) ∧ i + m = s.length ∧ Gt 11 t1 = .int .u64 (.ofNat (Zwg (s.take i) 0))
theorem vc171 (h159 : T 159 = Zjg) (h111 : T 111 = Zj9) (h78 : T 78 = Z0k) (h227 : T 227 = YK Zdu) (h171 : T 171 = q171) {s : List Nat} {lit : Bool} (hk : Zax s.length) (hb : ∀ b ∈ s,b < 256) (hq : ∀ h',h.next ≤ h'.next → (∀ l,l < h.next → hget h'.mem l = hget h.mem l) → Q (.tup [.int .u64 (.ofNat (Zmy lit s)),.int .i64 (.ofNat 0)]) h') : VC E T 171 [.str s,.int .i64 (.ofNat 0),.int .i64 (.ofNat s.length),.v (.bool lit)] h Q R := by
  unfold Zmy at hq
  refine Zd h171 ?_
  unfold Zf
  cases lit
  case false =>
    simp only [Bool.false_eq_true,if_true,if_false] at hq
    have hx : (s).length = s.length := by simp
    have hbx : ∀ b ∈ s,b < 256 := by simpa using hb
    have h8 : s.length ≤ 8 := by unfold Zax at hk; omega
    repeat' (with_reducible (first | refine zc ?_ | refine Zz0 h159 h111 h78 hk ?_ | refine vc227 h227 h8 ?_ | simp (maxSteps := 2000000) (disch := first | exact zd | fail) only [go_sem, -Int.reduceOfNat, *,Z13,Zuu,Zw0,List.drop_zero,Nat.sub_zero,List.take_length,hx,Zwg] | (refine zb ?_ ?_ <;> intro _) | (refine Vp (INum h (s)) (n := (s).length) ?_ ?_) | exact ze | (intro _; intros) | (refine ⟨_,by assumption, ?_⟩) | refine And.intro ?_ ?_))
    all_goals
      generalize hX : s = x at *
      rintro m t1 h1 ⟨gn,gf,g39,g40,i,g41,gi,g11⟩
      by_cases hlt : i < x.length
      · have hbi : x.getD i 0 < 256 := by
          have := hbx (x.getD i 0) (by rw [List.getD_eq_getElem?_getD,List.getElem?_eq_getElem hlt]; exact List.getElem_mem hlt)
          exact this
        have hbs : Zwg (x.take i) 0 < 72057594037927936 := by
          have h7 := Zx4 (x.take i) 0 0 (fun b hb => hbx b (List.mem_of_mem_take hb)) (by decide)
          rw [List.length_take,Nat.zero_add] at h7
          have h9 : 256 ^ min i x.length ≤ 256 ^ 7 := Nat.pow_le_pow_right (by decide) (by omega)
          omega
        have e1 : Zwg (x.take (i + 1)) 0 = Zwg (x.take i) 0 * 256 + x.getD i 0 := by rw [Zqe hlt,Zpm]
        have hso := Z2z hbs hbi
        have hxl : x.length ≤ 8 := by omega
        clear hx
        exact Zy9
      · obtain rfl : i = x.length := by omega
        rw [List.take_length] at g11
        clear hx
        repeat' (with_reducible (first | refine zc ?_ | simp (maxSteps := 2000000) (disch := first | exact zd | fail) only [go_sem, -Int.reduceOfNat, *] | (refine zb ?_ ?_ <;> intro _) | (show Q _ _; refine hq _ ?_ ?_) | exact ze | (intro _; intros) | (refine ⟨_,by assumption, ?_⟩) | refine And.intro ?_ ?_))
  case true =>
    simp only [Bool.false_eq_true,if_true,if_false] at hq
    have hx : (s.reverse).length = s.length := by simp
    have hbx : ∀ b ∈ s.reverse,b < 256 := by simpa using hb
    have h8 : s.length ≤ 8 := by unfold Zax at hk; omega
    repeat' (with_reducible (first | refine zc ?_ | refine Zz0 h159 h111 h78 hk ?_ | refine vc227 h227 h8 ?_ | simp (maxSteps := 2000000) (disch := first | exact zd | fail) only [go_sem, -Int.reduceOfNat, *,Z13,Zuu,Zw0,List.drop_zero,Nat.sub_zero,List.take_length,hx,Zwg] | (refine zb ?_ ?_ <;> intro _) | (refine Vp (INum h (s.reverse)) (n := (s.reverse).length) ?_ ?_) | exact ze | (intro _; intros) | (refine ⟨_,by assumption, ?_⟩) | refine And.intro ?_ ?_))
    all_goals
      generalize hX : s.reverse = x at *
      rintro m t1 h1 ⟨gn,gf,g39,g40,i,g41,gi,g11⟩
      by_cases hlt : i < x.length
      · have hbi : x.getD i 0 < 256 := by
          have := hbx (x.getD i 0) (by rw [List.getD_eq_getElem?_getD,List.getElem?_eq_getElem hlt]; exact List.getElem_mem hlt)
          exact this
        have hbs : Zwg (x.take i) 0 < 72057594037927936 := by
          have h7 := Zx4 (x.take i) 0 0 (fun b hb => hbx b (List.mem_of_mem_take hb)) (by decide)
          rw [List.length_take,Nat.zero_add] at h7
          have h9 : 256 ^ min i x.length ≤ 256 ^ 7 := Nat.pow_le_pow_right (by decide) (by omega)
          omega
        have e1 : Zwg (x.take (i + 1)) 0 = Zwg (x.take i) 0 * 256 + x.getD i 0 := by rw [Zqe hlt,Zpm]
        have hso := Z2z hbs hbi
        have hxl : x.length ≤ 8 := by omega
        clear hx
        exact Zy9
      · obtain rfl : i = x.length := by omega
        rw [List.take_length] at g11
        clear hx
        repeat' (with_reducible (first | refine zc ?_ | simp (maxSteps := 2000000) (disch := first | exact zd | fail) only [go_sem, -Int.reduceOfNat, *] | (refine zb ?_ ?_ <;> intro _) | (show Q _ _; refine hq _ ?_ ?_) | exact ze | (intro _; intros) | (refine ⟨_,by assumption, ?_⟩) | refine And.intro ?_ ?_))
end Run
end
end Go.Abs
