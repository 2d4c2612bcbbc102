/- What was reckoned for ElfPair, given by hand. -/
import Derived.Test.YthifolidfjpdkaaGreatDoorNdPa
import Derived.Test.YthifolidfjpdkaaGreatDoorRgL
import Derived.Test.YthifolidfjpdkaaGreatDoorRpA
set_option linter.unusedVariables false
set_option linter.unusedSimpArgs false
namespace Go.Abs
noncomputable section
namespace Run
open Go.Proofs Go.RowKit
set_option maxHeartbeats 100000000
set_option maxRecDepth 100000
def Zkk (F : D) (n : Nat) (nm : Nat → List Nat) : List D → H → O D := fun ds h => match ds with
  | [d,.int .i64 (.ofNat i)] => bif D.same d F && Nat.blt i n then .ok (nmD (nm i)) h else .fail "named"
  | _ => .fail "named"
theorem Zw8 (F : D) (n : Nat) (nm : Nat → List Nat) : ∀ ds h,Xv h (Zkk F n nm ds h) := fun ds h => WG fun p d h' ho => by
  unfold Zkk at ho
  split at ho
  · rename_i d0 i
    cases hb : (D.same d0 F && Nat.blt i n) with
    | false => rw [hb] at ho; cases p <;> cases ho
    | true => rw [hb] at ho; cases p <;> cases ho; rfl
  · cases p <;> cases ho
theorem Z0w {F : D} {n : Nat} {nm : Nat → List Nat} (hone : ∀ i,i < n → Zp Tryz.prog 59 (Zy [F,iD i] (nmD (nm i))) glob) : Zp Tryz.prog 59 (Zkk F n nm) glob := by
  intro ds h p d h' hr
  unfold Zkk at hr
  split at hr
  · rename_i d0 i
    cases hb : (D.same d0 F && Nat.blt i n) with
    | false => rw [hb] at hr; cases p <;> cases hr
    | true =>
      rw [hb] at hr
      simp only [Bool.and_eq_true] at hb
      have e := Zga hb.1
      subst e
      refine hone i (Nat.le_of_ble_eq_true hb.2) _ h p d h' ?_
      rw [← hr]
      show Zy [d0,iD i] _ [d0,iD i] h = _
      unfold Zy
      have h2 : ZR [d0,iD i] [d0,iD i] = true := by simp only [ZR,hb.1,Zyh,Bool.and_self]
      rw [h2]
      rfl
  · cases p <;> cases hr
def okNm (n : Nat) (nm : Nat → List Nat) : Bool := (List.range n).all fun i => (nm i).all (fun k => Nat.blt k n) && Nat.ble (nm i).length 1000000
def Z18 (n : Nat) (nm : Nat → List Nat) : List Nat := ((Zjx n).foldl (Zce nm) (Zwf n,[])).2.reverse
theorem Z7k {l : Zl7} (hl : ∀ x ∈ l,Zp Tryz.prog x.1 (Zy x.2.1 x.2.2) glob) {f : Nat} {ds : List D} {t : D} (hent : ∀ args w,(callFunc f args).run Tryz.prog w = .ok (.enter f args) w)
    (ht : Zcc Tryz.prog 40 ds = true) (h : rnM l f ds t) : Zp Tryz.prog f (Zy ds t) glob := Zou (k := 40) (Zaw (Zd9 hl) Z27 (Zmm _ _)) (Zfk Zrr (Z4i l)) Zfs hent ht h
def libsN (f : Nat) : Option (List D → H → O D) := bq (Nat.beq f 59) (some (Zkk Z5 2 Zeg)) (Zi3 f)
theorem Z1a : ∀ args w,(callFunc 59 args).run Tryz.prog w = .ok (.enter 59 args) w := fun args w => enters_of Tryz.func59 (by kernel_rfl) rfl _ _
theorem Z8t : ((List.range 2).all fun i => Zcc Tryz.prog 40 [Z5,iD i]) = true := by as_aux_lemma => kernel_rfl
theorem Z8s : okNm 2 Zeg = true := by as_aux_lemma => kernel_rfl
theorem Z5d : D.same Z5 Z5 = true := by as_aux_lemma => kernel_rfl
theorem Z1d : Z5 = .ep (Z5g :: .sl 0 2 Z5b :: Zvp) := by as_aux_lemma => kernel_rfl
theorem Z49 : Z18 2 Zeg = Zxq := by as_aux_lemma => kernel_rfl
theorem Z8o : Zpf = .sl 0 Zxq.length (Zxq.map Zfr) := by as_aux_lemma => kernel_rfl
theorem Z5a : Zcc Tryz.prog 40 [Z5] = true := by as_aux_lemma => kernel_rfl
theorem s_used : Zp Tryz.prog 30 (Zy [Z5] Zpf) glob := by
  have hs : Zp Tryz.prog 59 (Zkk Z5 2 Zeg) glob := Z0w fun i hi => by
    have h1 : rn [] 59 [Z5,iD i] (nmD (Zeg i)) := List.all_eq_true.1 Z1h i (List.mem_range.2 hi)
    exact Zaz WA Z1a (List.all_eq_true.1 Z8t i (List.mem_range.2 hi)) h1
  have hT : Told Tryz.prog glob (Zfw Tryz.prog glob libsN) := Zaw Z2b hs (Zw8 Z5 2 Zeg)
  have hok := fun i (hi : i < 2) => Bool.and_eq_true_iff.1 (List.all_eq_true.1 Z8s i (List.mem_range.2 hi))
  rw [Z8o,← Z49]
  refine Z17 (k := 40) hT (Zfk Zrr libsN) (by kernel_rfl) (lf := Zkk Z5 2 Zeg) rfl Z5 Z5g Z5b Zvp 2 Z1d (by decide) (by decide) Zeg (fun i hi k hk => Nat.le_of_ble_eq_true (List.all_eq_true.1 (hok i hi).1 k hk)) (fun i hi => Nat.le_of_ble_eq_true (hok i hi).2) (fun i hi h => ?_) (Z18 2 Zeg) (by simp [Z18]) (by rw [Z49]; exact fun e => by cases e) Z5a
  show Zkk Z5 2 Zeg [Z5,.int .i64 (.ofNat i)] h = _
  unfold Zkk
  have hb : Nat.blt i 2 = true := by simpa [Nat.blt_eq] using hi
  simp only [Z5d,hb,Bool.and_self,cond_true]
theorem s_pair : Zp Tryz.prog 13 (Zy [] (Zhz)) glob := Zaz WA (fun args w => enters_of Tryz.func13 (by kernel_rfl) rfl _ _) (by as_aux_lemma => kernel_rfl) Z1e
theorem s_of : Zp Tryz.prog 14 (Zy [Z5] (Vj)) glob := Zaz (Y7 Zm5 (Y7 s_used (Y7 Zr8 WA))) (fun args w => enters_of Tryz.func14 (by kernel_rfl) rfl _ _) (by as_aux_lemma => kernel_rfl) Z8q
theorem Z7e : Zp Tryz.prog 15 (Zy [Z5,.agg Zcx,iD 1048576] (VV)) glob := Z7k (Y7 Zm5 (Y7 s_of (Y7 Zr8 WA))) (fun args w => enters_of Tryz.func15 (by kernel_rfl) rfl _ _) (by as_aux_lemma => kernel_rfl) Zxr
def Z3v : Zl7 := [(6,[],Y5),(5,[Y5],VW),(13,[],Zhz),(14,[Z5],Vj),(15,[Z5,.agg Zcx,iD 1048576],VV),(10,[],.v (.bool true))]
def Z4h (f : Nat) : Option (List D → H → O D) := bq (Nat.beq f 9) (some Zp2) (Zmk Z3v f)
def Ziu : Env := Zfw Go.Proofs.Tryz.prog glob Z4h
def Wm : Nat → ZV := Zqd Z4h TA
theorem toldP : Told Tryz.prog glob Ziu := Zaw (Zd9 (Y7 s_txt (Y7 Zm6 (Y7 s_pair (Y7 s_of (Y7 Z7e (Y7 Zyi WA))))))) sim9 Z0x
end Run
end
end Go.Abs
namespace Go.Abs
noncomputable section
namespace Run
variable {E : Env} {T : Nat → ZV}
set_option maxHeartbeats 4000000
set_option maxRecDepth 100000
attribute [local go_sem] Zc2 Ud Zc3 Ub Uj Ua Ug Zc1 Uf Ue Zc0 XJ Ul XG Uh WM XH Ym WN UY Un WL Ui Uk Um WO YN WQ Zam Wq Wp Uc Vw Vx Zc5 Zc6 Uo Ut Ur XL XK Yn Uq Up Zc4 WR Uv Us Uu WS Zar Zap Zas Zao Vz Zaq VA Zat Vy VB Zc7 Zau Zc9 Uw Zc8 Zir Zis Zip Ziq Zes Zet UG UF UH UJ UI UK Zdh Zdg V7 V8 V6 Zda VI VJ VH V4 UA XU V1 V3 XV XW UD UC UB XR YX Wg Uy Zdd Zez Zps X0 YZ VE Za8 XX V0 Y0 ZH X2 Ys WI patch Yq Yr YW YV Wc Wb Xj Xk XD V9 Wa X3 Yv YY XY Xt X1 Yp ZN Yt mem_cons Zdf Zdc YT Option.map_some Option.map_none V5 Wx Wz Wy Za9 VG Ww VF YO YP X9 X4 Xa Wd X5 X8 X6 Yw X7 WX XP WZ WU Uz WV WY WW XQ XO YG Wo WH Zgx Zcp Zcy Zbp Zdj Zq7 Xi Xz Va WB Yo YU Yu Y1 ZU YH ZW Xm List.drop_succ_cons List.drop_zero List.drop_nil List.take_succ_cons List.take_zero List.take_nil List.length_cons List.length_nil List.length_append List.cons_append List.nil_append Nat.reduceAdd Nat.reduceEqDiff Nat.reduceLeDiff Nat.reduceLT List.cons.injEq reduceCtorEq eq_self not_true_eq_false not_false_eq_true and_false false_and true_or or_true decide_true decide_false Bool.and_self Bool.and_true Bool.true_and Bool.true_or Bool.or_true Bool.false_or Bool.or_false Bool.false_and Bool.and_false Bool.not_true Bool.not_false cond_true cond_false true_and and_true Zah Zde Zdi reduceIte Nat.add_zero Nat.zero_add Nat.add_sub_cancel Nat.reduceMul Nat.reduceSub Nat.reduceBEq List.map_cons List.map_nil Z8 Z7 Y2 Zi Zb Z9 Ws Zeu Wk ZY ZL Wu Wt XN XM and_assoc exists_and_left D.str.injEq Nat.lt_irrefl Nat.not_lt_zero true_implies false_implies implies_true forall_const ge_iff_le gt_iff_lt Nat.sub_zero List.append_assoc Option.some.injEq AObj.cells.injEq D.int.injEq D.ptr.injEq Int.ofNat.injEq exists_eq_left' D.v.injEq Value.bool.injEq D.agg.injEq Nat.mul_one Zja Zp8
variable {h : H} {Q : D → H → Prop} {R : ZM}
def q4b : FC := (Z0 (Z0 (Xf <| Ze (Zh (Gt 26)) (St 132) <| Ze (Za Wo .neq 26 (.tmp 132) (.const (.int .i64 (.ofNat 0))) (Gt 132) (kD (.int .i64 (.ofNat 0)))) (St 133) <| Ze (Zh (Gt 133)) (St 134) <| Zfv (Gt 134) false (Ze (Zh (Gt 29)) (St 135)) (St 135) <| Zfv (Gt 134) false (Ze (Za Wo .neq 26 (.tmp 135) (.const (.int .i64 (.ofNat 0))) (Gt 135) (kD (.int .i64 (.ofNat 0)))) (St 136)) (St 136) <| Ze (Yb (Gt 134) (kD (.v (.bool true))) (Gt 136)) (St 137) <| Ze (Zh (Gt 137)) (St 138) <| Zfv (Gt 138) false (Ze (u1 (Zt 3) (Gt 24)) (St 139)) (St 139) <| Zfv (Gt 138) false (Xw 8 [] 1 (Gt 139) (Zl (Gt 139)) (St 140)) (St 140) <| Zfv (Gt 138) false (Ze (u1 Yy (Gt 140)) (St 141)) (St 141) <| Zfv (Gt 138) false (Ze (Za Wo .neq 3 (.tmp 141) (.const (.int .i64 (.ofNat 21))) (Gt 141) (kD (.int .i64 (.ofNat 21)))) (St 142)) (St 142) <| Ze (Yb (Gt 138) (kD (.v (.bool true))) (Gt 142)) (St 143) <| Ze (Zh (Gt 143)) (St 144) <| Zfv (Gt 144) false (Ze (u1 (Zt 3) (Gt 27)) (St 145)) (St 145) <| Zfv (Gt 144) false (Xw 14 [] 1 (Gt 145) (Zl (Gt 145)) (St 146)) (St 146) <| Zfv (Gt 144) false (Ze (u1 Yy (Gt 146)) (St 147)) (St 147) <| Zfv (Gt 144) false (Ze (Za Wo .neq 3 (.tmp 147) (.const (.int .i64 (.ofNat 21))) (Gt 147) (kD (.int .i64 (.ofNat 21)))) (St 148)) (St 148) <| Ze (Yb (Gt 144) (kD (.v (.bool true))) (Gt 148)) (St 149) <| Ze (Zh (Gt 149)) (St 150) <| Zfv (Gt 150) false (Ze (u1 (Zt 3) (Gt 27)) (St 151)) (St 151) <| Zfv (Gt 150) false (Xw 20 [] 1 (Gt 151) (Zl (Gt 151)) (St 152)) (St 152) <| Zfv (Gt 150) false (Ze (u2 (ZZ 4) (Gt 152) (kD (.int .i64 (.ofNat 20)))) (St 153)) (St 153) <| Zfv (Gt 150) false (Ze (u1 (Zt 3) (Gt 153)) (St 154)) (St 154) <| Zfv (Gt 150) false (Xw 23 [] 1 (Gt 154) (Zl (Gt 154)) (St 155)) (St 155) <| Zfv (Gt 150) false (Ze (u1 Yy (Gt 155)) (St 156)) (St 156) <| Zfv (Gt 150) false (Ze (u1 (Zt 3) (Gt 24)) (St 157)) (St 157) <| Zfv (Gt 150) false (Xw 26 [19,20,21,22,23,24] 1 (Gt 157) (Zl (Gt 157)) (St 158)) (St 158) <| Zfv (Gt 150) false (Ze (u2 (ZZ 4) (Gt 158) (kD (.int .i64 (.ofNat 20)))) (St 159)) (St 159) <| Zfv (Gt 150) false (Ze (u1 (Zt 3) (Gt 159)) (St 160)) (St 160) <| Zfv (Gt 150) false (Xw 29 [19,20,21,22,23,24] 1 (Gt 160) (Zl (Gt 160)) (St 161)) (St 161) <| Zfv (Gt 150) false (Ze (u1 Yy (Gt 161)) (St 162)) (St 162) <| Zfv (Gt 150) false (Ze (Za YS .add 3 (.tmp 162) (.const (.int .i64 (.ofNat 1))) (Gt 162) (kD (.int .i64 (.ofNat 1)))) (St 163)) (St 163) <| Zfv (Gt 150) false (Ze (Za Wo .neq 3 (.tmp 156) (.tmp 163) (Gt 156) (Gt 163)) (St 164)) (St 164) <| Ze (Yb (Gt 150) (kD (.v (.bool true))) (Gt 164)) (St 165) <| Xg)
 (Zg (Gt 165) (Z0 (Z1 <| fo (Zh (kD (.v (.bool false)))) (St 4) <| Z2)
 Zv) Zx))
 (Z0 (Xf <| Ze (u1 (Zt 3) (Gt 24)) (St 166) <| Xw 1 [] 1 (Gt 166) (Zl (Gt 166)) (St 167) <| Ze (uo (Zd3 4) (Gt 167) none (some (kD (.int .i64 (.ofNat 20))))) (St 168) <| Zg8 3 [] (Zw 16 [(Gt 168)]) (St 169) <| Ze (u1 (Zt 3) (Gt 27)) (St 170) <| Xw 5 [0,1,2,3] 1 (Gt 170) (Zl (Gt 170)) (St 171) <| Ze (uo (Zd3 4) (Gt 171) none (some (kD (.int .i64 (.ofNat 20))))) (St 172) <| Zju 7 [] (Zw 16 [(Gt 172)]) (St 173) <| Zju 8 [] (Zw 12 [(Gt 169),(Gt 173)]) (St 174) <| Ze (Zh (Gt 174)) (St 4) <| Xg)
 Zv))
def q4 : ZV := Zbg Zf (fun t h => .ok (Gt 4 t) h)
 (Z0 (Z1 <| fo (Zh (kD (.v (.bool false)))) (St 4) <| Z2)
 (Z0 (Z1 <| fo (Zw 6 []) (St 31) <| fo (Zw 5 [(Gt 31)]) (St 32) <| fo (Zh (Gt 32)) (St 30) <| fo (u1 (Xe 0) (Gt 30)) (St 33) <| fo (u1 (Xe 1) (Gt 30)) (St 34) <| fo (u1 (Xe 2) (Gt 30)) (St 35) <| fo (Zo 25 [(.int .i64 (.ofNat 0)),(.int .i64 (.ofNat 0))]) (St 6) <| fo (Zh (Gt 33)) (St 5) <| fo (ZF 2 (Gt 6) (Gt 34)) p0 <| fo (Zh (Gt 35)) (St 7) <| Z2)
 (Z0 (Z1 <| fo (Zw 13 []) (St 37) <| fo (Zh (Gt 37)) (St 36) <| fo (u1 (Xe 0) (Gt 36)) (St 38) <| fo (u1 (Xe 1) (Gt 36)) (St 39) <| fo (Zh (Gt 38)) (St 8) <| fo (Zh (Gt 39)) (St 9) <| Z2)
 (Z0 (Z1 <| fo (Zh (Gt 5)) (St 41) <| fo (Zh (Gt 8)) (St 42) <| fo (Zw 9 [(Gt 41),(Gt 42)]) (St 43) <| fo (Zh (Gt 43)) (St 40) <| fo (u1 (Xe 0) (Gt 40)) (St 44) <| fo (u1 (Xe 1) (Gt 40)) (St 45) <| fo (u1 (Xe 2) (Gt 40)) (St 46) <| fo (Zo 39 [(.int .i64 (.ofNat 0)),(.int .u64 (.ofNat 0)),(.str []),(.v (.slice none 0 0))]) (St 10) <| fo (ZF 4 (Gt 10) (Gt 44)) p0 <| fo (Zh (Gt 45)) (St 11) <| fo (Zh (Gt 46)) (St 12) <| Z2)
 (Z0 (Z1 <| fo (Zh (Gt 5)) (St 48) <| fo (Zh (Gt 9)) (St 49) <| fo (Zw 9 [(Gt 48),(Gt 49)]) (St 50) <| fo (Zh (Gt 50)) (St 47) <| fo (u1 (Xe 0) (Gt 47)) (St 51) <| fo (u1 (Xe 1) (Gt 47)) (St 52) <| fo (u1 (Xe 2) (Gt 47)) (St 53) <| fo (Zo 39 [(.int .i64 (.ofNat 0)),(.int .u64 (.ofNat 0)),(.str []),(.v (.slice none 0 0))]) (St 13) <| fo (ZF 4 (Gt 13) (Gt 51)) p0 <| fo (Zh (Gt 52)) (St 14) <| fo (Zh (Gt 53)) (St 15) <| Z2)
 (Z0 (Z1 <| fo (Zh (Gt 5)) (St 55) <| fo (Zw 14 [(Gt 55)]) (St 56) <| fo (Zh (Gt 56)) (St 54) <| fo (u1 (Xe 0) (Gt 54)) (St 57) <| fo (u1 (Xe 1) (Gt 54)) (St 58) <| fo (Zo 53 [(.v (.bool false)),(.v (.bool false)),(.v (.slice none 0 0)),(.v (.slice none 0 0)),(.int .i64 (.ofNat 0))]) (St 16) <| fo (ZF 5 (Gt 16) (Gt 57)) p0 <| fo (Zh (Gt 58)) (St 17) <| Z2)
 (Z0 (Z1 <| fo (Zh (Gt 5)) (St 60) <| fo (YB 4 (Gt 10)) (St 61) <| fo (Zw 15 [(Gt 60),(Gt 61),(kD (.int .i64 (.ofNat 1048576)))]) (St 62) <| fo (Zh (Gt 62)) (St 59) <| fo (u1 (Xe 0) (Gt 59)) (St 63) <| fo (u1 (Xe 1) (Gt 59)) (St 64) <| fo (u1 (Xe 2) (Gt 59)) (St 65) <| fo (Zo 57 [(.str []),(.int .i64 (.ofNat 0)),(.int .u64 (.ofNat 0)),(.str []),(.v (.slice none 0 0))]) (St 18) <| fo (ZF 5 (Gt 18) (Gt 63)) p0 <| fo (Zh (Gt 64)) (St 19) <| fo (Zh (Gt 65)) (St 20) <| Z2)
 (Z0 (Z0 (Z1 <| fo (Zw 10 []) (St 66) <| fo (u1 (Ze7 .not) (Gt 66)) (St 67) <| fo (Zh (Gt 67)) (St 68) <| Yl (Gt 68) false (Zh (Gt 7)) (St 69) <| Yl (Gt 68) false (Za Wo .neq 26 (.tmp 69) (.const (.int .i64 (.ofNat 0))) (Gt 69) (kD (.int .i64 (.ofNat 0)))) (St 70) <| fo (Yb (Gt 68) (kD (.v (.bool true))) (Gt 70)) (St 71) <| fo (Zh (Gt 71)) (St 72) <| Yl (Gt 72) false (Zh (Gt 12)) (St 73) <| Yl (Gt 72) false (Za Wo .neq 26 (.tmp 73) (.const (.int .i64 (.ofNat 0))) (Gt 73) (kD (.int .i64 (.ofNat 0)))) (St 74) <| fo (Yb (Gt 72) (kD (.v (.bool true))) (Gt 74)) (St 75) <| fo (Zh (Gt 75)) (St 76) <| Yl (Gt 76) false (Zh (Gt 15)) (St 77) <| Yl (Gt 76) false (Za Wo .neq 26 (.tmp 77) (.const (.int .i64 (.ofNat 0))) (Gt 77) (kD (.int .i64 (.ofNat 0)))) (St 78) <| fo (Yb (Gt 76) (kD (.v (.bool true))) (Gt 78)) (St 79) <| fo (Zh (Gt 79)) (St 80) <| Yl (Gt 80) false (Zh (Gt 17)) (St 81) <| Yl (Gt 80) false (Za Wo .neq 26 (.tmp 81) (.const (.int .i64 (.ofNat 0))) (Gt 81) (kD (.int .i64 (.ofNat 0)))) (St 82) <| fo (Yb (Gt 80) (kD (.v (.bool true))) (Gt 82)) (St 83) <| fo (Zh (Gt 83)) (St 84) <| Yl (Gt 84) false (Zh (Gt 8)) (St 85) <| Yl (Gt 84) false (Zh (Gt 9)) (St 86) <| Yl (Gt 84) false (Za YG .eql 9 (.tmp 85) (.tmp 86) (Gt 85) (Gt 86)) (St 87) <| fo (Yb (Gt 84) (kD (.v (.bool true))) (Gt 87)) (St 88) <| fo (Zh (Gt 88)) (St 89) <| Yl (Gt 89) false (YB 4 (Gt 10)) (St 90) <| Yl (Gt 89) false (YB 4 (Gt 13)) (St 91) <| Yl (Gt 89) false (Zw 12 [(Gt 90),(Gt 91)]) (St 92) <| Yl (Gt 89) false (u1 (Ze7 .not) (Gt 92)) (St 93) <| fo (Yb (Gt 89) (kD (.v (.bool true))) (Gt 93)) (St 94) <| fo (Zh (Gt 94)) (St 95) <| Yl (Gt 95) false (u1 (Zt 0) (Gt 16)) (St 96) <| Yl (Gt 95) false (Zl (Gt 96)) (St 97) <| fo (Yb (Gt 95) (kD (.v (.bool true))) (Gt 97)) (St 98) <| fo (Zh (Gt 98)) (St 99) <| Yl (Gt 99) false (u1 (Zt 1) (Gt 16)) (St 100) <| Yl (Gt 99) false (Zl (Gt 100)) (St 101) <| fo (Yb (Gt 99) (kD (.v (.bool true))) (Gt 101)) (St 102) <| fo (Zh (Gt 102)) (St 103) <| Yl (Gt 103) false (Zh (Gt 20)) (St 104) <| Yl (Gt 103) false (Za Wo .neq 26 (.tmp 104) (.const (.int .i64 (.ofNat 15))) (Gt 104) (kD (.int .i64 (.ofNat 15)))) (St 105) <| fo (Yb (Gt 103) (kD (.v (.bool true))) (Gt 105)) (St 106) <| Z2)
 (Zg (Gt 106) (Z0 (Z1 <| fo (Zh (kD (.v (.bool false)))) (St 4) <| Z2)
 Zv) Zx))
 (Z0 (Z1 <| fo (Zh (Gt 0)) (St 108) <| fo (Zw 7 [(Gt 108)]) (St 109) <| fo (Zh (Gt 109)) (St 107) <| fo (u1 (Xe 0) (Gt 107)) (St 110) <| fo (u1 (Xe 1) (Gt 107)) (St 111) <| fo (Zh (Gt 110)) (St 21) <| fo (Zh (Gt 111)) (St 22) <| Z2)
 (Z0 (Z1 <| fo (Zh (Gt 21)) (St 112) <| fo (Zw 8 [(Gt 112)]) (St 113) <| fo (Zh (Gt 113)) (St 23) <| Z2)
 (Z0 (Z1 <| fo (Zh (Gt 5)) (St 115) <| fo (Zh (Gt 23)) (St 116) <| fo (Zw 9 [(Gt 115),(Gt 116)]) (St 117) <| fo (Zh (Gt 117)) (St 114) <| fo (u1 (Xe 0) (Gt 114)) (St 118) <| fo (u1 (Xe 1) (Gt 114)) (St 119) <| fo (u1 (Xe 2) (Gt 114)) (St 120) <| fo (Zo 39 [(.int .i64 (.ofNat 0)),(.int .u64 (.ofNat 0)),(.str []),(.v (.slice none 0 0))]) (St 24) <| fo (ZF 4 (Gt 24) (Gt 118)) p0 <| fo (Zh (Gt 119)) (St 25) <| fo (Zh (Gt 120)) (St 26) <| Z2)
 (Z0 (Z1 <| fo (Zh (Gt 5)) (St 122) <| fo (Zh (Gt 23)) (St 123) <| fo (Zh (Gt 1)) (St 124) <| fo (Xu 5 1 [(.int .u8 (.ofNat 0))] [(0,1,(Gt 124))]) (St 125) <| fo (u1 Zj8 (Gt 125)) (St 126) <| fo (Za YS .add 9 (.tmp 123) (.tmp 126) (Gt 123) (Gt 126)) (St 127) <| fo (Zw 9 [(Gt 122),(Gt 127)]) (St 128) <| fo (Zh (Gt 128)) (St 121) <| fo (u1 (Xe 0) (Gt 121)) (St 129) <| fo (u1 (Xe 1) (Gt 121)) (St 130) <| fo (u1 (Xe 2) (Gt 121)) (St 131) <| fo (Zo 39 [(.int .i64 (.ofNat 0)),(.int .u64 (.ofNat 0)),(.str []),(.v (.slice none 0 0))]) (St 27) <| fo (ZF 4 (Gt 27) (Gt 129)) p0 <| fo (Zh (Gt 130)) (St 28) <| fo (Zh (Gt 131)) (St 29) <| Z2)
 q4b))))))))))))
theorem vd_sl {n : Nat} {g1 g2 : Tr D → D} {p : D → Tr D → Tr D} {kd : FD} {recs : List Rec} {t : Tr D} {h : H} {Q : UU} {R : ZM} : VD E T (Ze (uo (Zd3 n) g1 none (some g2)) p kd) recs t h Q R ↔ vD E T (Z0q n (g1 t) (g2 t) h) p kd recs t Q R := by rw [← Zui (E := E) (c := Zu) (a := act t)]; exact VQ fun _ => rfl
def P7 (d0 : D) (l : List (Nat × List Nat)) : Prop := ∀ {h : H} {Q : D → H → Prop} {R : ZM},(∀ h' x y,h.next ≤ h'.next → (∀ l,l < h.next → hget h'.mem l = hget h.mem l) → isS x (WK l) → Q (.tup [x,y]) h') → VC Ziu Wm 7 [d0] h Q R
def P8 (l : List (Nat × List Nat)) : Prop := ∀ {x : D} {h : H} {Q : D → H → Prop} {R : ZM},isS x (WK l) → (∀ h',h.next ≤ h'.next → (∀ l,l < h.next → hget h'.mem l = hget h.mem l) → Q (.str (YM (WK l))) h') → VC Ziu Wm 8 [x] h Q R
section
variable {d0 : D} {l : List (Nat × List Nat)} {Q : D → H → Prop} {R : ZM}
theorem P7.out (hc : P7 d0 l) (hq : ∀ h' x y,h.next ≤ h'.next → (∀ l,l < h.next → hget h'.mem l = hget h.mem l) → isS x (WK l) → Q (.tup [x,y]) h') : VC Ziu Wm 7 [d0] h Q R := hc hq
theorem P8.out (hc : P8 l) {x : D} (hx : isS x (WK l)) (hq : ∀ h',h.next ≤ h'.next → (∀ l,l < h.next → hget h'.mem l = hget h.mem l) → Q (.str (YM (WK l))) h') : VC Ziu Wm 8 [x] h Q R := hc hx hq
theorem pun6 (h6 : Wm 6 = YK (Zy [] Y5)) (hq : Q Y5 h) : VC Ziu Wm 6 [] h Q R := run_any h6 ZY hq
theorem pun5 (h5 : Wm 5 = YK (Zy [Y5] VW)) (hf : D.same Y5 Y5 = true) (hq : Q (.tup [Z5,.agg [.int .i64 (.ofNat 0),.int .i64 (.ofNat 0)],.int .i64 (.ofNat 0)]) h) : VC Ziu Wm 5 [Y5] h Q R := run_any h5 (by rw [ZL,hf,ZY]; rfl) hq
theorem pun10 (h10 : Wm 10 = YK (Zy [] (.v (.bool true)))) (hq : Q (.v (.bool true)) h) : VC Ziu Wm 10 [] h Q R := run_any h10 ZY hq
theorem pun13 (h13 : Wm 13 = YK (Zy [] Zhz)) (hq : Q (.tup [.str (YM sx1),.str (YM sx2)]) h) : VC Ziu Wm 13 [] h Q R := run_any h13 ZY hq
theorem pun14 (h14 : Wm 14 = YK (Zy [Z5] Vj)) (hf : D.same Z5 Z5 = true) {c d e : D} (he : Vj = .tup [.agg [.v (.bool false),.v (.bool false),c,d,e],.int .i64 (.ofNat 0)]) (hq : Q (.tup [.agg [.v (.bool false),.v (.bool false),c,d,e],.int .i64 (.ofNat 0)]) h) : VC Ziu Wm 14 [Z5] h Q R := by
  rw [← he] at hq
  exact run_any h14 (by rw [ZL,hf,ZY]; rfl) hq
theorem pun15 (h15 : Wm 15 = YK (Zy [Z5,.agg Zcx,iD 1048576] VV)) (hf : ZR [Z5,.agg Zcx,iD 1048576] [Z5,.agg Zcx,iD 1048576] = true) {c : List D} {L : D} (hc : Zcx = [.int .i64 (.ofNat 4),.int .u64 (.ofNat 0),.str [],L]) {e : D} (he : VV = .tup [.agg c,e,.int .i64 (.ofNat 15)]) (hq : Q (.tup [.agg c,e,.int .i64 (.ofNat 15)]) h) : VC Ziu Wm 15 [Z5,.agg [.int .i64 (.ofNat 4),.int .u64 (.ofNat 0),.str [],L],.int .i64 (.ofNat 1048576)] h Q R := by
  rw [← he] at hq
  rw [← hc]
  exact run_any h15 hf hq
theorem pread (h9 : Wm 9 = YK Zp2) {sx : List (Nat × List Nat)} {ext : List Nat} (hs : SOk sx) (hx : ext.length ≤ 1) (hb : ∀ b ∈ ext,b < 256) (hf : D.same Z5 Z5 = true) (hq : Q (.tup [.agg [.int .i64 (.ofNat 4),.int .u64 (.ofNat 0),.str [],Zpe (Zdv sx ext ++ [Zpt (List.replicate ((YM sx ++ ext).length - 64) Zit)])],.int .i64 (.ofNat 0),.int .i64 (.ofNat 0)]) h) : VC Ziu Wm 9 [Z5,.str (YM sx ++ ext)] h Q R := Z6i h9 hs hx hb hf (by
  rw [Zin,Zep]
  exact hq)
theorem Zwy (h9 : Wm 9 = YK Zp2) {sx : List (Nat × List Nat)} (hs : SOk sx) (hf : D.same Z5 Z5 = true) (hq : Q (.tup [.agg [.int .i64 (.ofNat 4),.int .u64 (.ofNat 0),.str [],Zpe (Zdv sx [] ++ [Zpt (List.replicate ((YM sx).length - 64) Zit)])],.int .i64 (.ofNat 0),.int .i64 (.ofNat 0)]) h) : VC Ziu Wm 9 [Z5,.str (YM sx)] h Q R := by
  have := pread (R := R) h9 hs (ext := []) (by decide) (fun b hb => absurd hb List.not_mem_nil) hf (by rw [List.append_nil]; exact hq)
  rwa [List.append_nil] at this
end
theorem Zr1 : SOk sx1 := ⟨by decide,by decide,by decide,by decide⟩
theorem Zwn : SOk sx2 := ⟨by decide,by decide,by decide,by decide⟩
theorem Z6r : Zjv sx1 [] = Zjv sx2 [] := by kernel_rfl
theorem sx_ne : UQ (YM sx1) (YM sx2) = false := by kernel_rfl
theorem Zn1 {sx : List (Nat × List Nat)} {ext : List Nat} (hs : SOk sx) (hx : ext.length ≤ 1) (hb : ∀ b ∈ ext,b < 256) : Rep (Zjv sx ext) [.int .i64 (.ofNat 4),.int .u64 (.ofNat 0),.str [],Zpe (Zdv sx ext ++ [Zpt (List.replicate ((YM sx ++ ext).length - 64) Zit)])] := by
  have := Z5i hs hx hb
  rw [Zin,Zep] at this
  rw [Zin]
  exact this
theorem Zgk {sx : List (Nat × List Nat)} {ext : List Nat} (hs : SOk sx) (hx : ext.length ≤ 1) (hb : ∀ b ∈ ext,b < 256) : ∃ d L20 d',Zpe (Zdv sx ext ++ [Zpt (List.replicate ((YM sx ++ ext).length - 64) Zit)]) = d ∧ d.same d = true ∧ d.one = true ∧ (∀ h : H,Zhp d h = .ok (.int .i64 (.ofNat 21)) h) ∧ (∃ x y z r,∀ h : H,Zci 4 d (.int .i64 (.ofNat 20)) h = .ok (.ep (x :: y :: z :: L20 :: r)) h) ∧ (∀ h : H,Zhp L20 h = .ok (.int .i64 (.ofNat ((YM sx ++ ext).length - 64))) h) ∧ (∀ h : H,Z0q 4 d (.int .i64 (.ofNat 20)) h = .ok d' h) ∧ d'.one = true ∧ d'.cells = [d'] ∧ Rep (Zy4 (Zdv sx [])) [.int .i64 (.ofNat 4),.int .u64 (.ofNat 0),.str [],d'] := by
  have h := Zn1 hs hx hb
  rw [Zin] at h
  obtain ⟨L,e,_,hr⟩ := Rep.inv h
  obtain rfl : L = Zpe (Zdv sx ext ++ [Zpt (List.replicate ((YM sx ++ ext).length - 64) Zit)]) := by
    have := List.cons.inj (List.cons.inj (List.cons.inj (List.cons.inj e).2).2).2
    exact this.1.symm
  obtain ⟨a2,b2,e2,f2,r2,h2,g2⟩ := Zj4 hr (i := 20) (x := Zpt (List.replicate ((YM sx ++ ext).length - 64) Zit)) rfl
  obtain ⟨L2,q2,_,hr2⟩ := Rep.inv h2
  cases q2
  obtain ⟨d',g3,hr3⟩ := Z4x (m := 20) hr (show 20 < 21 by decide) (by decide)
  have hw : (Zdv sx ext ++ [Zpt (List.replicate ((YM sx ++ ext).length - 64) Zit)]).take 20 = Zdv sx [] := by
    rw [Z5h]; rfl
  rw [hw] at hr3
  refine ⟨_,_,d',rfl,Zcf hr,Zs hr,fun h => Zia hr h,⟨_,_,_,r2,fun h => g2 .i64 h⟩,fun h => ?_,g3,Zs hr3,Zz4 hr3,Rep.of (by show 20 ≤ 1000000; decide) hr3⟩
  rw [Zia hr2 h,List.length_replicate]
theorem vp4b {Q : D → H → Prop} {R : ZM} {t : Tr D} {h : H} {n : Nat} {dX dY dX' dY' LX LY : D} {sx : List (Nat × List Nat)} (h98 : Wm 98 = q98) (h62 : Wm 62 = q62) (h35 : Wm 35 = q35) (h27 : Wm 27 = q27) (h28 : Wm 28 = q28) (h12 : Wm 12 = q12) (h16 : Wm 16 = q16)
    (hM : ∃ lX,Gt 24 t = .ptr lX 0 ∧ ∃ lY,Gt 27 t = .ptr lY 0 ∧ Gt 26 t = .int .i64 (.ofNat 0) ∧ Gt 29 t = .int .i64 (.ofNat 0) ∧ lX < h.next ∧ lY < h.next ∧ hget h.mem lX = some (.cells 39 [.int .i64 (.ofNat 4),.int .u64 (.ofNat 0),.str [],dX]) ∧ hget h.mem lY = some (.cells 39 [.int .i64 (.ofNat 4),.int .u64 (.ofNat 0),.str [],dY]))
    (nX : ∀ h : H,Zhp dX h = .ok (.int .i64 (.ofNat 21)) h) (nY : ∀ h : H,Zhp dY h = .ok (.int .i64 (.ofNat 21)) h) {x1 x2 x3 y1 y2 y3 : D} {x4 y4 : List D} (iX : ∀ h : H,Zci 4 dX (.int .i64 (.ofNat 20)) h = .ok (.ep (x1 :: x2 :: x3 :: LX :: x4)) h) (iY : ∀ h : H,Zci 4 dY (.int .i64 (.ofNat 20)) h = .ok (.ep (y1 :: y2 :: y3 :: LY :: y4)) h)
    (hn : n ≤ 10000) (mX : ∀ h : H,Zhp LX h = .ok (.int .i64 (.ofNat n)) h) (mY : ∀ h : H,Zhp LY h = .ok (.int .i64 (.ofNat (n + 1))) h) (sX : ∀ h : H,Z0q 4 dX (.int .i64 (.ofNat 20)) h = .ok dX' h) (sY : ∀ h : H,Z0q 4 dY (.int .i64 (.ofNat 20)) h = .ok dY' h) (oX : dX'.one = true) (oY : dY'.one = true) (cX : dX'.cells = [dX']) (cY : dY'.cells = [dY'])
    (rX : Rep (Zy4 (Zdv sx [])) [.int .i64 (.ofNat 4),.int .u64 (.ofNat 0),.str [],dX']) (rY : Rep (Zy4 (Zdv sx [])) [.int .i64 (.ofNat 4),.int .u64 (.ofNat 0),.str [],dY']) (kX : Zpy 4 (Zy4 (Zdv sx []))) (cW : Vs 4 (Zy4 (Zdv sx [])) ≤ 1000000)
    (zX : dX.same dX = true) (zY : dY.same dY = true) (hq : ∀ h',Q (.v (.bool true)) h') : VP Ziu Wm q4b t h (Lfn (fun t h => .ok (Gt 4 t) h) Q) R := by
  obtain ⟨lX,g24,lY,g27,g26,g29,lt1,lt2,m24,m27⟩ := hM
  unfold q4b
  repeat' (with_reducible (first | refine Yc ?_ | refine Yd ?_ | refine Xo ?_ | refine Xn ?_ | refine Yf ?_ | refine ZQ ?_ | refine Ye ?_ | refine Xp ?_ | refine Vl ?_ | refine Vc ?_ | refine U0 ?_ | refine vc16 h16 cX oX ?_ | refine vc16 h16 cY oY ?_ | refine Zrf h98 h62 h35 h27 h28 h12 kX rX rY cW (by decide) ?_ | simp (maxSteps := 2000000) (disch := first | assumption | omega | (simp only [Z8,Z7,List.length_cons,List.length_nil,List.length_append,List.length_take,List.length_drop]; omega) | fail) only [go_sem, -Int.reduceOfNat, *,vd_sl,Zbp,Nat.beq_refl] | ((first | refine Zbt ?_ ?_ | refine U3 ?_ ?_ | refine Zbs ?_ ?_ | refine U1 ?_ ?_ | refine U2 ?_ ?_ | refine Vd ?_ ?_) <;> intro _ <;> (try (exfalso; omega))) | (intro h2 f1 f2) | (show Q _ _; exact hq _) | assumption | exact trivial | (show _ < _; omega) | (show _ ≤ _; omega) | (show ¬ (_ : Nat) = _; omega) | (show (_ : Nat) ≠ _; omega) | (show (_ : Nat) = _; omega) | (intro _; intros) | (refine ⟨_,by assumption, ?_⟩) | refine And.intro ?_ ?_))
theorem vc4 {d0 : D} {l : List (Nat × List Nat)} {b : Nat} {Q : D → H → Prop} {R : ZM} (h4 : Wm 4 = q4) (h6 : Wm 6 = YK (Zy [] Y5)) (h5 : Wm 5 = YK (Zy [Y5] VW)) (h10 : Wm 10 = YK (Zy [] (.v (.bool true)))) (h13 : Wm 13 = YK (Zy [] Zhz)) (h14 : Wm 14 = YK (Zy [Z5] Vj)) (h15 : Wm 15 = YK (Zy [Z5,.agg Zcx,iD 1048576] VV)) (h9 : Wm 9 = YK Zp2) (h98 : Wm 98 = q98) (h62 : Wm 62 = q62) (h35 : Wm 35 = q35) (h27 : Wm 27 = q27) (h28 : Wm 28 = q28) (h12 : Wm 12 = q12) (h16 : Wm 16 = q16)
    (h7 : P7 d0 l) (h8 : P8 l) (hs : SOk (WK l)) (hb : b < 256) (hf : D.same Y5 Y5 = true) (hff : D.same Z5 Z5 = true) (hf5 : ZR [Z5,.agg Zcx,iD 1048576] [Z5,.agg Zcx,iD 1048576] = true) {cc cd ce : D} (hcl : Vj = .tup [.agg [.v (.bool false),.v (.bool false),cc,cd,ce],.int .i64 (.ofNat 0)]) (o1 : cc.one = true) (o2 : cd.one = true) (o3 : ce.one = true) {w1 w2 w3 w4 w5 we : D} (hwr : VV = .tup [.agg [w1,w2,w3,w4,w5],we,.int .i64 (.ofNat 15)]) (p1 : w1.one = true) (p2 : w2.one = true) (p3 : w3.one = true) (p4 : w4.one = true) (p5 : w5.one = true) (hq : ∀ h',Q (.v (.bool true)) h') : VC Ziu Wm 4 [d0,.int .u8 (.ofNat b)] h Q R := by
  have hx1 : [b].length ≤ 1 := Nat.le_refl 1
  have hb1 : ∀ x ∈ [b],x < 256 := fun x hx => by rw [List.mem_singleton.mp hx]; exact hb
  have hb2 : Wl [.int .u8 (.ofNat b)] = some [b] := Zl0 (l := [b]) hb1
  have hb3 : ∀ (id : Nat) (hh : H),Zuw (.sl id 1 [.int .u8 (.ofNat b)]) hh = .ok (.str [b]) hh := fun id hh => Z71 rfl hb2
  obtain ⟨dA,LA,dA',eA,zA,oA,nA,_,_,_,_,_,_⟩ := Zgk Zr1 (ext := []) (by decide) (fun b hb => absurd hb List.not_mem_nil)
  obtain ⟨dB,LB,dB',eB,zB,oB,nB,_,_,_,_,_,_⟩ := Zgk Zwn (ext := []) (by decide) (fun b hb => absurd hb List.not_mem_nil)
  obtain ⟨dX,LX,dX',eX,zX,oX,nX,⟨x1,x2,x3,x4,iX⟩,mX,sX,o'X,c'X,rX⟩ := Zgk hs (ext := []) (by decide) (fun b hb => absurd hb List.not_mem_nil)
  obtain ⟨dY,LY,dY',eY,zY,oY,nY,⟨y1,y2,y3,y4,iY⟩,mY,sY,o'Y,c'Y,rY⟩ := Zgk hs (ext := [b]) (Nat.le_refl 1) hb1
  have rA := Zn1 Zr1 (ext := []) (by decide) (fun b hb => absurd hb List.not_mem_nil)
  have rB := Zn1 Zwn (ext := []) (by decide) (fun b hb => absurd hb List.not_mem_nil)
  rw [← Z6r] at rB
  have hv1 : Zcx = [.int .i64 (.ofNat 4),.int .u64 (.ofNat 0),.str [],dA] := by rw [← eA,Zcx,Zin,Zep]
  rw [eA] at rA
  rw [eB] at rB
  rw [List.append_nil] at eA eB eX mX
  have kA : Zpy 4 (Zjv sx1 []) := Z8w
  have cA := Z5j Zr1 (ext := []) (by decide)
  have kX : Zpy 4 (Zy4 (Zdv (WK l) [])) := Z8x
  have cX := Z5k (ext := []) hs
  have hel : 64 ≤ (YM (WK l)).length := by rw [Zeh]; omega
  have helu : (YM (WK l)).length ≤ 10000 := by
    have hd := Zfz hs.d
    have := hs.n
    rw [Zeh]; omega
  have hl1 : (YM (WK l) ++ [b]).length - 64 = (YM (WK l)).length - 64 + 1 := by
    rw [List.length_append]
    show (YM (WK l)).length + 1 - 64 = _
    omega
  rw [hl1] at mY
  have hl2 : (YM (WK l) ++ [b]).length = (YM (WK l)).length + 1 := by rw [List.length_append]; rfl
  rw [hl2] at eY
  clear hl1 hl2
  have hel2 : (YM (WK l)).length - 64 ≤ 10000 := by omega
  refine Zd h4 ?_
  unfold Zf
  repeat' (with_reducible (first | refine Yc ?_ | refine Yd ?_ | refine Xo ?_ | refine Xn ?_ | refine Yf ?_ | refine ZQ ?_ | refine Ye ?_ | refine Xp ?_ | refine Vl ?_ | refine Vc ?_ | refine U0 ?_ | refine pun6 h6 ?_ | refine pun5 h5 hf ?_ | refine pun13 h13 ?_ | refine Zwy h9 Zr1 hff ?_ | refine Zwy h9 Zwn hff ?_ | refine pun14 h14 hff hcl ?_ | refine pun15 h15 hf5 hv1 hwr ?_ | refine pun10 h10 ?_ | refine Zrf h98 h62 h35 h27 h28 h12 kA rA rB cA (by decide) ?_ | refine h7.out ?_ | refine h8.out (by assumption) ?_ | refine Zwy h9 hs hff ?_ | refine pread h9 hs hx1 hb1 hff ?_ | refine (vp4b h98 h62 h35 h27 h28 h12 h16 ?_ nX nY iX iY hel2 mX mY sX sY o'X o'Y c'X c'Y rX rY kX cX zX zY hq) | simp (maxSteps := 2000000) (disch := first | assumption | omega | (simp only [Z8,Z7,List.length_cons,List.length_nil,List.length_append,List.length_take,List.length_drop]; omega) | fail) only [go_sem, -Int.reduceOfNat, *,vd_sl,YP,sx_ne] | ((first | refine Zbt ?_ ?_ | refine U3 ?_ ?_ | refine Zbs ?_ ?_ | refine U1 ?_ ?_ | refine U2 ?_ ?_ | refine Vd ?_ ?_) <;> intro _ <;> (try (exfalso; omega))) | (intro h2 x0 y0 f1 f2 hx0) | (intro h2 f1 f2) | assumption | exact trivial | (show _ < _; omega) | (show _ ≤ _; omega) | (show ¬ (_ : Nat) = _; omega) | (show (_ : Nat) ≠ _; omega) | (show (_ : Nat) = _; omega) | (intro _; intros) | (refine ⟨_,by assumption, ?_⟩) | refine And.intro ?_ ?_))
end Run
end
end Go.Abs
namespace Go.Abs
noncomputable section
namespace Run
variable {E : Env} {T : Nat → ZV}
set_option maxHeartbeats 4000000
set_option maxRecDepth 100000
variable {h : H} {Q : D → H → Prop} {R : ZM}
open Go.Proofs Go.RowKit Go.Deep Go.ChangeShapes Go.WideShapes
theorem p7_of {l : List (Nat × List Nat)} {d : D} (h : (l = [] ∧ d = .v (.slice none 0 0)) ∨ d = .sl 0 l.length (UV l)) : P7 d l := by
  intro h Q R hq
  rcases ‹_ ∨ _› with ⟨rfl,rfl⟩ | rfl
  · exact vc7n (by kernel_rfl) (hq _ _ _ (Nat.le_refl _) (fun _ _ => rfl) (Or.inl ⟨rfl,rfl⟩))
  · exact vc7s (by kernel_rfl) hq
theorem p8_of {l : List (Nat × List Nat)} (hs : SOk (WK l)) : P8 l := by
  intro x h Q R hx hq
  rcases hx with ⟨e,rfl⟩ | ⟨hne,id,rfl⟩
  · rw [e] at hq
    exact vc8n (by kernel_rfl) (by kernel_rfl) (by kernel_rfl) (by kernel_rfl) (by kernel_rfl) (by kernel_rfl) (by kernel_rfl) (by kernel_rfl) (by kernel_rfl) (by kernel_rfl) (by kernel_rfl) (by kernel_rfl) (by kernel_rfl) (by kernel_rfl) (by kernel_rfl) (by kernel_rfl) hq
  · exact vc8s (by kernel_rfl) (by kernel_rfl) (by kernel_rfl) (by kernel_rfl) (by kernel_rfl) (by kernel_rfl) (by kernel_rfl) (by kernel_rfl) (by kernel_rfl) (by kernel_rfl) (by kernel_rfl) (by kernel_rfl) (by kernel_rfl) (by kernel_rfl) (by kernel_rfl) (by kernel_rfl) hs hq
theorem Z6l {l : List (Nat × List Nat)} {d : D} {b : Nat} {h : H} (hk : ∀ s ∈ l,s.1 < 4294967296) (hl : ∀ s ∈ l,∀ b ∈ s.2,b < 256) (hb : b < 256) (hd : (l = [] ∧ d = .v (.slice none 0 0)) ∨ d = .sl 0 l.length (UV l)) : VC Ziu Wm 4 [d,.int .u8 (.ofNat b)] h (fun d h' => d = .v (.bool true)) Zd8 :=
  vc4 (l := l) (by kernel_rfl) (by kernel_rfl) (by kernel_rfl) (by kernel_rfl) (by kernel_rfl) (by kernel_rfl) (by kernel_rfl) (by kernel_rfl) (by kernel_rfl) (by kernel_rfl) (by kernel_rfl) (by kernel_rfl) (by kernel_rfl) (by kernel_rfl) (by kernel_rfl) (p7_of hd) (p8_of (Zyg hk hl)) (Zyg hk hl) hb (by kernel_rfl) (by kernel_rfl) (by kernel_rfl) rfl rfl rfl rfl rfl rfl rfl rfl rfl rfl fun _ => rfl
theorem pair_world {w : World} {ss : List (Int × ByteArray)} {v : Value} {n : Int} (hl : Zpr w v 2 (ss.map (Zpw .u32))) (hw : ∀ p ∈ ss,(Lit.int .u32 p.1).wf = true) (hn : (Lit.int .u8 n).wf = true) (hg : Holds glob w) :
    Calls Tryz.prog 4 #[v,.int .u8 n] w fun e w' => e = .returned (.bool true) ∧ Below w.heap.size w w' := by
  obtain ⟨d,hd,hk,hb,hv⟩ := Zwr hl hw
  obtain ⟨b,rfl,hb8⟩ : ∃ b : Nat,n = .ofNat b ∧ b < 256 := by
    simp [Lit.wf] at hn
    have h1 : 0 ≤ n := hn.1
    have h2 : n ≤ 255 := hn.2
    exact ⟨n.toNat,(Int.toNat_of_nonneg h1).symm,by omega⟩
  refine (Ztl toldP (Zfk Zrr Z4h) (glob_W hg Zxj) (Zyu w) (Zyc (Z6l (h := UM) hk hb hb8 hd)) (.cons hv (.cons (.int _ _) (.nil _))) (enters_of Tryz.func4 (by kernel_rfl) rfl)).mono ?_
  rintro e w' ⟨d,h',v,g',rfl,rfl,_,hv',hb,_⟩
  cases hv'
  exact ⟨rfl,hb⟩
end Run
end
end Go.Abs
