/- Numbers as bytes: walks of the program. -/
import Derived.Test.YthifolidfjpdkaaGreatDoorReB
set_option linter.unusedVariables false
set_option linter.unusedSimpArgs false
namespace Go.Abs
noncomputable section
namespace Run
variable {E : Env} {T : Nat → ZV}
set_option maxHeartbeats 4000000
set_option maxRecDepth 100000
theorem Zsp {G : Prop} (g : G := by
  repeat' (with_reducible (first | refine zc ?_ | refine Zan ?_ | simp (maxSteps := 2000000) (disch := first | exact zd | fail) only [go_sem, -Int.reduceOfNat, *,Zch,List.length_cons,List.length_nil,patch,Nat.zero_add,Nat.mul_one,D.cells,Y4,D.one,List.drop_succ_cons,List.drop_zero,List.cons_append,List.nil_append,List.take_succ_cons,List.take_zero,Nat.reduceAdd,Nat.reduceLeDiff,decide_true,Bool.and_self,Bool.and_true,cond_true,Zb] | (refine zb ?_ ?_ <;> intro _ <;> (try (exfalso; omega))) | (show Q _ _; refine hq _ ?_ ?_ ?_) | rfl | exact ze | (intro _; intros) | (refine ⟨_,by assumption, ?_⟩) | refine And.intro ?_ ?_))) : G := g
attribute [local go_sem] Zc2 Ud Zc3 Ub Uj Ua Ug Zc1 Uf Ue Zc0 XJ Ul XG Uh WM XH Ym WN UY Un WL Ui Uk Um WO YN WQ Zam Wq Wp Uc Vw Vx Zc5 Zc6 Uo Ut Ur XL XK Yn Uq Up Zc4 WR Uv Us Uu WS Zar Zap Zas Zao Vz Zaq VA Zat Vy VB Zc7 Zau Zc9 Uw Zc8 Zir Zis Zip Ziq Zes Zet UG UF UH UJ UI UK Zdh Zdg V7 V8 V6 Zda VI VJ VH V4 UA XU V1 V3 XV XW UD UC UB XR YX Wg Uy Zdd Zez Zps X0 YZ VE Za8 XX V0 Y0 ZH X2 Ys WI patch Yq Yr YW YV Wc Wb Xj Xk XD V9 Wa X3 Yv YY XY Xt X1 Yp ZN Yt mem_cons Zdf Zdc YT Option.map_some Option.map_none V5 Wx Wz Wy Za9 VG Ww VF YO YP X9 X4 Xa Wd X5 X8 X6 Yw X7 WX XP WZ WU Uz WV WY WW XQ XO YG Wo WH Zgx Zcp Zcy Zbp Zdj Zq7 Xi Xz Va WB Yo YU Yu Y1 ZU YH ZW Xm List.drop_succ_cons List.drop_zero List.drop_nil List.take_succ_cons List.take_zero List.take_nil List.length_cons List.length_nil List.length_append List.cons_append List.nil_append Nat.reduceAdd Nat.reduceEqDiff Nat.reduceLeDiff Nat.reduceLT List.cons.injEq reduceCtorEq eq_self not_true_eq_false not_false_eq_true and_false false_and true_or or_true decide_true decide_false Bool.and_self Bool.and_true Bool.true_and Bool.true_or Bool.or_true Bool.false_or Bool.or_false Bool.false_and Bool.and_false Bool.not_true Bool.not_false cond_true cond_false true_and and_true Zah Zde Zdi reduceIte Nat.add_zero Nat.zero_add Nat.add_sub_cancel Nat.reduceMul Nat.reduceSub Nat.reduceBEq List.map_cons List.map_nil Z8 Z7 Y2 Zi Zb Z9 Ws Zeu Wk ZY ZL Wu Wt XN XM and_assoc exists_and_left D.str.injEq Nat.lt_irrefl Nat.not_lt_zero true_implies false_implies implies_true forall_const ge_iff_le gt_iff_lt Nat.sub_zero List.append_assoc Option.some.injEq AObj.cells.injEq D.int.injEq D.ptr.injEq Int.ofNat.injEq exists_eq_left' D.v.injEq Value.bool.injEq D.agg.injEq Nat.mul_one Zja Zp8
section
variable {h : H} {Q : D → H → Prop} {R : ZM}
def Z7q : ZV := Zbg Zf (fun t h => .ok (.tup [(Gt 6) t,(Gt 7) t]) h)
 (Z0 (Z1<|fo (Zh (kS [])) (St 6)<|fo (Zh (kI 0)) (St 7)<|Z2)
 (Z0 (ZA 0 (Z0 (Z1<|mM 1 11<|mK 78 [(Gt 11)] 12<|fo (u1 (Ze7 .not) (Gt 12)) (St 13)<|mM 13 10<|Z2)
 (Zg (Gt 10) (Z0 (Z1<|fo (Zh (kS [])) (St 6)<|fo (Zh (kI 2)) (St 7)<|Z2)
 Zv) (Z0 (Z1 <| mM 0 15 <| mM 1 16 <| fo (Za Z5p .mul 3 (.const (.int .i64 (.ofNat 8))) (.tmp 16) (kI 8) (Gt 16)) (St 17) <| mK 79 [(Gt 15),(Gt 17)] 18 <| fo (u1 (Ze7 .not) (Gt 18)) (St 19) <| mM 19 14 <| Z2)
 (Zg (Gt 14) (Z0 (Z1<|fo (Zh (kS [])) (St 6)<|fo (Zh (kI 5)) (St 7)<|Z2)
 Zv) Zx)))))
 (Z0 (Z1<|mM 1 20<|fo (u2 (Zje 5 1 1 [(.int .u8 (.ofNat 0))]) (Gt 20) (Gt 20)) (St 21)<|mM 21 8<|Z2)
 (Z0 (Z0 (Z1<|mM 1 22<|fo (Zh (kI 0)) (St 23)<|Z2)
 (ZA 1 (Xy (Z0 (Z1<|fo (Za WH .lss 3 (.tmp 23) (.tmp 22) (Gt 23) (Gt 22)) (St 24)<|Z2)
 (Z0 (Zg (Gt 24) Zx (Vi 1))
 (Z0 (ZA 2 (Z0 (Z1<|mM 23 25<|mM 25 9<|Z2)
 (Z1<|mM 8 26<|mM 1 27<|fo (Za Zff .sub 3 (.tmp 27) (.const (.int .i64 (.ofNat 1))) (Gt 27) (kI 1)) (St 28)<|mM 9 29<|fo (Za Zff .sub 3 (.tmp 28) (.tmp 29) (Gt 28) (Gt 29)) (St 30)<|mM 0 31<|mM 9 32<|fo (Za Z5p .mul 3 (.const (.int .i64 (.ofNat 8))) (.tmp 32) (kI 8) (Gt 32)) (St 33)<|fo (Zr7 .shr 36 (.tmp 31) (.tmp 33) (Gt 31) (Gt 33)) (St 34)<|fo (VM .u8 (Gt 34)) (St 35)<|fo (u2 (ZZ 1) (Gt 26) (Gt 30)) (St 36)<|mS 36 (Gt 35)<|Z2)))
 (Z1<|fo (Za YS .add 3 (.tmp 23) (.const (.int .i64 (.ofNat 1))) (Gt 23) (kI 1)) (St 37)<|mM 37 23<|Z2)))))))
 (Z0 (Z0 (Z1<|mM 2 38<|Z2)
 (Zg (Gt 38) (Z1<|mM 8 39<|mK 80 [(Gt 39)] 40<|Z2) Zx))
 (Z0 (Z1<|mM 8 41<|fo (u1 Zj8 (Gt 41)) (St 42)<|mM 42 6<|fo (Zh (kI 0)) (St 7)<|Z2)
 Zv))))))
def Z1z : ZV := Zbg Zf (fun t h => .ok (.tup []) h)
 (Z0 (Z1<|mM 0 4<|fo (u1 Yy (Gt 4)) (St 5)<|fo (Za Zff .sub 3 (.tmp 5) (.const (.int .i64 (.ofNat 1))) (Gt 5) (kI 1)) (St 6)<|fo (Zh (kI 0)) (St 2)<|mM 6 3<|Z2)
 (ZA 0 (Xy (Z0 (Z0 (Z1<|mM 2 7<|mM 3 8<|fo (Za WH .lss 3 (.tmp 7) (.tmp 8) (Gt 7) (Gt 8)) (St 9)<|Z2)
 (Zg (Gt 9) Zx (Vi 0)))
 (Z0 (ZA 1 (Xf<|Ze (Zh (Gt 0)) (St 14)<|Ze (Zh (Gt 2)) (St 15)<|Ze (Zh (Gt 0)) (St 16)<|Ze (Zh (Gt 3)) (St 17)<|Ze (Zh (Gt 0)) (St 18)<|Ze (Zh (Gt 3)) (St 19)<|Ze (u2 (ZZ 1) (Gt 18) (Gt 19)) (St 20)<|Xw 7 [0,1,2,3] 1 (Gt 20) (Zl (Gt 20)) (St 21)<|Ze (Zh (Gt 0)) (St 22)<|Ze (Zh (Gt 2)) (St 23)<|Ze (u2 (ZZ 1) (Gt 22) (Gt 23)) (St 24)<|Xw 11 [0,1,2,3,4,5,6,7] 1 (Gt 24) (Zl (Gt 24)) (St 25)<|Ze (u2 (ZZ 1) (Gt 14) (Gt 15)) (St 26)<|Zg8 13 [2,3] (ZF 1 (Gt 26) (Gt 21)) p0<|Ze (u2 (ZZ 1) (Gt 16) (Gt 17)) (St 27)<|Zg8 15 [] (ZF 1 (Gt 27) (Gt 25)) p0<|Xg))
 (Z1<|mM 2 10<|fo (Za YS .add 3 (.tmp 10) (.const (.int .i64 (.ofNat 1))) (Gt 10) (kI 1)) (St 11)<|mM 3 12<|fo (Za Zff .sub 3 (.tmp 12) (.const (.int .i64 (.ofNat 1))) (Gt 12) (kI 1)) (St 13)<|mM 11 2<|mM 13 3<|Z2))))))
def q48 : ZV := Zbg Zf (fun t h => .ok (Gt 4 t) h)
 (Z0 (Z1<|fo (Zh (kS [])) (St 4)<|Z2)
 (Z0 (Z1<|mM 0 8<|mM 1 9<|mK 49 [(Gt 8),(Gt 9),(kD (.v (.bool true)))] 10<|mM 10 7<|mE 0 7 11<|mE 1 7 12<|mM 11 5<|mM 12 6<|Z2)
 (Z0 (Z1<|mM 5 13<|mM 13 4<|Z2)
 Zv)))
def Z6c : ZV := Zbg Zf (fun t h => .ok (Gt 4 t) h)
 (Z0 (Z1<|fo (Zh (kD (.v (.bool false)))) (St 4)<|Z2)
 (Z0 (Z1<|mM 0 5<|mM 1 6<|mK 112 [(Gt 6)] 7<|fo (Za Zgx .leq 36 (.tmp 5) (.tmp 7) (Gt 5) (Gt 7)) (St 8)<|mM 8 4<|Z2)
 Zv))
def Zoe : ZV := Zbg Zf (fun t h => .ok (Gt 2 t) h)
 (Z0 (Z1<|fo (Zh (kD (.int .u64 (.ofNat 0)))) (St 2)<|Z2)
 (Z0 (Z0 (Z1<|mM 0 3<|fo (Za Zgx .leq 3 (.tmp 3) (.const (.int .i64 (.ofNat 0))) (Gt 3) (kI 0)) (St 4)<|Z2)
 (Zg (Gt 4) (Z0 (Z1<|fo (Zh (kD (.int .u64 (.ofNat 0)))) (St 2)<|Z2)
 Zv) Zx))
 (Z0 (Z1<|mM 0 5<|fo (fbi .min #[3,3] 3 #[false,true] [(Gt 5),(kI 64)]) (St 6)<|fo (Za Zff .sub 3 (.const (.int .i64 (.ofNat 64))) (.tmp 6) (kI 64) (Gt 6)) (St 7)<|fo (Zr7 .shr 36 (.const (.int .u64 (.ofNat 18446744073709551615))) (.tmp 7) (kD (.int .u64 (.ofNat 18446744073709551615))) (Gt 7)) (St 8)<|mM 8 2<|Z2)
 Zv)))
section
theorem Zj1 {n : Nat} : Zeq .u8 (.ofNat n) = .ofNat (n % 256) := by
  rw [Zj2,Zg1]
  simp only [Zoz,Zxi]
  by_cases h : n ≤ 255
  · rw [show Nat.ble n 255 = true from Nat.ble_eq_true_of_le h,cond_true,Nat.mod_eq_of_lt (by omega)]
  · rw [show Nat.ble n 255 = false by cases hb : Nat.ble n 255 with | false => rfl | true => exact absurd (Nat.le_of_ble_eq_true hb) h,cond_false]
    simp only [IntKind.wrap,IntKind.bits,IntKind.signed,Bool.false_and,Bool.false_eq_true,if_false]
    have e1 : (Int.ofNat n) = (n : Int) := rfl
    have e2 : Int.ofNat (n % 256) = ((n % 256 : Nat) : Int) := rfl
    have e3 : (2 : Int) ^ 8 = 256 := by decide
    rw [e1,e2,e3]
    omega
theorem Zna {m n : Nat} (h : m * n ≤ 9223372036854775807) : Z5p .i64 (.ofNat m) (.ofNat n) = .int .i64 (.ofNat (m * n)) := by
  show D.int .i64 (Zeq .i64 (iMul (.ofNat m) (.ofNat n))) = _
  rw [Zzb,show Int.ofNat m * Int.ofNat n = Int.ofNat (m * n) from rfl,Zf8 h]
end
def Zeo (k n : Nat) : List Nat := (List.range k).map fun i => n / 2 ^ min (8 * i) 64 % 256
def Zkt (k : Nat) : Prop := k = 2 ∨ k = 4 ∨ k = 8
theorem vc112 (h112 : T 112 = Zoe) {k : Nat} (hk : Zkt k) (hq : Q (.int .u64 (.ofNat (256 ^ k - 1))) h) : VC E T 112 [.int .i64 (.ofNat (8 * k))] h Q R := by
  rcases hk with rfl | rfl | rfl
  all_goals
    refine Zd h112 ?_
    unfold Zf
    repeat' (with_reducible (first | refine zc ?_ | simp (maxSteps := 2000000) (disch := first | exact zd | fail) only [go_sem, -Int.reduceOfNat, *,Zja,Zdr,ZW,Z51] | (refine zb ?_ ?_ <;> intro _ <;> (try (exfalso; omega))) | (show Q _ _; exact hq) | exact ze | (intro _; intros) | (refine ⟨_,by assumption, ?_⟩) | refine And.intro ?_ ?_))
  · rw [show 18446744073709551615 / 2 ^ min (64 - min 16 64) 64 = 256 ^ 2 - 1 by decide]; exact hq
  · rw [show 18446744073709551615 / 2 ^ min (64 - min 32 64) 64 = 256 ^ 4 - 1 by decide]; exact hq
  · rw [show 18446744073709551615 / 2 ^ min (64 - min 64 64) 64 = 256 ^ 8 - 1 by decide]; exact hq
theorem Z6k (h112 : T 112 = Zoe) (h79 : T 79 = Z6c) {k n : Nat} (hk : Zkt k) (hn : n < 256 ^ k) (hq : Q (.v (.bool true)) h) : VC E T 79 [.int .u64 (.ofNat n),.int .i64 (.ofNat (8 * k))] h Q R := by
  have h2 : ¬ 256 ^ k - 1 < n := by omega
  refine Zd h79 ?_
  unfold Zf
  repeat' (with_reducible (first | refine zc ?_ | refine vc112 h112 hk ?_ | simp (maxSteps := 2000000) (disch := first | exact zd | fail) only [go_sem, -Int.reduceOfNat, *] | (refine zb ?_ ?_ <;> intro _ <;> (try (exfalso; omega))) | (show Q _ _; exact hq) | exact ze | (intro _; intros) | (refine ⟨_,by assumption, ?_⟩) | refine And.intro ?_ ?_))
end
section
variable {h : H} {Q : D → H → Prop} {R : ZM}
theorem vc80r2 (h80 : T 80 = Z1z) {l c ty x0 x1 : Nat} (hm : hget h.mem l = some (.cells ty [.int .u8 (.ofNat x0),.int .u8 (.ofNat x1)])) (hq : ∀ h',h.next = h'.next → hget h'.mem l = some (.cells ty [.int .u8 (.ofNat x1),.int .u8 (.ofNat x0)]) → (∀ j,j ≠ l → hget h'.mem j = hget h.mem j) → Q (.tup []) h') : VC E T 80 [.row l 0 2 c] h Q R := by
  refine Zd h80 ?_
  unfold Zf
  exact Zsp
theorem vc80r4 (h80 : T 80 = Z1z) {l c ty x0 x1 x2 x3 : Nat} (hm : hget h.mem l = some (.cells ty [.int .u8 (.ofNat x0),.int .u8 (.ofNat x1),.int .u8 (.ofNat x2),.int .u8 (.ofNat x3)])) (hq : ∀ h',h.next = h'.next → hget h'.mem l = some (.cells ty [.int .u8 (.ofNat x3),.int .u8 (.ofNat x2),.int .u8 (.ofNat x1),.int .u8 (.ofNat x0)]) → (∀ j,j ≠ l → hget h'.mem j = hget h.mem j) → Q (.tup []) h') : VC E T 80 [.row l 0 4 c] h Q R := by
  refine Zd h80 ?_
  unfold Zf
  exact Zsp
theorem vc80r8 (h80 : T 80 = Z1z) {l c ty x0 x1 x2 x3 x4 x5 x6 x7 : Nat} (hm : hget h.mem l = some (.cells ty [.int .u8 (.ofNat x0),.int .u8 (.ofNat x1),.int .u8 (.ofNat x2),.int .u8 (.ofNat x3),.int .u8 (.ofNat x4),.int .u8 (.ofNat x5),.int .u8 (.ofNat x6),.int .u8 (.ofNat x7)])) (hq : ∀ h',h.next = h'.next → hget h'.mem l = some (.cells ty [.int .u8 (.ofNat x7),.int .u8 (.ofNat x6),.int .u8 (.ofNat x5),.int .u8 (.ofNat x4),.int .u8 (.ofNat x3),.int .u8 (.ofNat x2),.int .u8 (.ofNat x1),.int .u8 (.ofNat x0)]) → (∀ j,j ≠ l → hget h'.mem j = hget h.mem j) → Q (.tup []) h') : VC E T 80 [.row l 0 8 c] h Q R := by
  refine Zd h80 ?_
  unfold Zf
  exact Zsp
end
section
variable {h : H} {Q : D → H → Prop} {R : ZM}
theorem ZG {b : Nat} {cs : List D} {l : List Nat} (hb : b < 256) (h : Wl cs = some l) : Wl (.int .u8 (.ofNat b) :: cs) = some (b :: l) := by
  unfold Wl
  rw [h,Xz,decide_eq_true hb]
  rfl
theorem Vv {a : Nat} : a % 256 < 256 := Nat.mod_lt _ (by decide)
theorem bo0 : Wl [] = some [] := by unfold Wl; rfl
theorem Gr.of {a b c : H} (g : Gr a b) {l : Nat} (hl : a.next ≤ l) (hn : b.next ≤ c.next) (hk : ∀ j,j ≠ l → hget c.mem j = hget b.mem j) : Gr a c := ⟨Nat.le_trans g.1 hn,fun j hj => (hk j (by omega)).trans (g.2 j hj)⟩
theorem vc49l2 (h159 : T 159 = Zjg) (h111 : T 111 = Zj9) (h78 : T 78 = Z0k) (h112 : T 112 = Zoe) (h79 : T 79 = Z6c) (h80 : T 80 = Z1z) (h49 : T 49 = Z7q) {n : Nat} (hn : n < 256 ^ 2) (hq : ∀ h',Gr h h' → Q (.tup [.str (Zeo 2 n),.int .i64 (.ofNat 0)]) h') : VC E T 49 [.int .u64 (.ofNat n),.int .i64 (.ofNat 2),.v (.bool true)] h Q R := by
  refine Zd h49 ?_
  unfold Zf
  repeat' (with_reducible (first | refine zc ?_ | refine Zan ?_ | refine vc80r2 h80 Zb ?_ | (refine Zz0 h159 h111 h78 (by unfold Zax; omega) ?_) | (refine Z6k h112 h79 (k := 2) (by unfold Zkt; omega) hn ?_) | simp (maxSteps := 2000000) (disch := first | exact zd | fail) only [go_sem, -Int.reduceOfNat, *,Zj1,Zna,ZW,Z51,UY,Zke,repeatL,Zch,List.length_cons,List.length_nil,patch,Nat.zero_add,Nat.add_zero,Nat.mul_one,Nat.one_mul,D.cells,Y4,D.one,List.drop_succ_cons,List.drop_zero,List.cons_append,List.nil_append,List.take_succ_cons,List.take_zero,Nat.reduceAdd,Nat.reduceMul,Nat.reduceSub,Nat.reduceLeDiff,decide_true,Bool.and_self,Bool.and_true,cond_true,Zb,YE] | (refine zb ?_ ?_ <;> intro _ <;> (try (exfalso; omega))) | (intro h2 g3 g4 g5; have hB := Zkf (c := 2) (n := 2) g4 rfl (ZG Vv (ZG Vv bo0))) | (intro h1 g1 g2) | exact ze | (intro _; intros) | (refine ⟨_,by assumption, ?_⟩) | refine And.intro ?_ ?_))
  refine hq _ ⟨by omega,fun j hj => ?_⟩
  rw [g5 j (by omega)]
  repeat rw [Z9 (by omega)]
  rw [Zi (by omega)]
  exact g2 j hj
theorem vc49l4 (h159 : T 159 = Zjg) (h111 : T 111 = Zj9) (h78 : T 78 = Z0k) (h112 : T 112 = Zoe) (h79 : T 79 = Z6c) (h80 : T 80 = Z1z) (h49 : T 49 = Z7q) {n : Nat} (hn : n < 256 ^ 4) (hq : ∀ h',Gr h h' → Q (.tup [.str (Zeo 4 n),.int .i64 (.ofNat 0)]) h') : VC E T 49 [.int .u64 (.ofNat n),.int .i64 (.ofNat 4),.v (.bool true)] h Q R := by
  refine Zd h49 ?_
  unfold Zf
  repeat' (with_reducible (first | refine zc ?_ | refine Zan ?_ | refine vc80r4 h80 Zb ?_ | (refine Zz0 h159 h111 h78 (by unfold Zax; omega) ?_) | (refine Z6k h112 h79 (k := 4) (by unfold Zkt; omega) hn ?_) | simp (maxSteps := 2000000) (disch := first | exact zd | fail) only [go_sem, -Int.reduceOfNat, *,Zj1,Zna,ZW,Z51,UY,Zke,repeatL,Zch,List.length_cons,List.length_nil,patch,Nat.zero_add,Nat.add_zero,Nat.mul_one,Nat.one_mul,D.cells,Y4,D.one,List.drop_succ_cons,List.drop_zero,List.cons_append,List.nil_append,List.take_succ_cons,List.take_zero,Nat.reduceAdd,Nat.reduceMul,Nat.reduceSub,Nat.reduceLeDiff,decide_true,Bool.and_self,Bool.and_true,cond_true,Zb,YE] | (refine zb ?_ ?_ <;> intro _ <;> (try (exfalso; omega))) | (intro h2 g3 g4 g5; have hB := Zkf (c := 4) (n := 4) g4 rfl (ZG Vv (ZG Vv (ZG Vv (ZG Vv bo0))))) | (intro h1 g1 g2) | exact ze | (intro _; intros) | (refine ⟨_,by assumption, ?_⟩) | refine And.intro ?_ ?_))
  refine hq _ ⟨by omega,fun j hj => ?_⟩
  rw [g5 j (by omega)]
  repeat rw [Z9 (by omega)]
  rw [Zi (by omega)]
  exact g2 j hj
theorem vc49l8 (h159 : T 159 = Zjg) (h111 : T 111 = Zj9) (h78 : T 78 = Z0k) (h112 : T 112 = Zoe) (h79 : T 79 = Z6c) (h80 : T 80 = Z1z) (h49 : T 49 = Z7q) {n : Nat} (hn : n < 256 ^ 8) (hq : ∀ h',Gr h h' → Q (.tup [.str (Zeo 8 n),.int .i64 (.ofNat 0)]) h') : VC E T 49 [.int .u64 (.ofNat n),.int .i64 (.ofNat 8),.v (.bool true)] h Q R := by
  refine Zd h49 ?_
  unfold Zf
  repeat' (with_reducible (first | refine zc ?_ | refine Zan ?_ | refine vc80r8 h80 Zb ?_ | (refine Zz0 h159 h111 h78 (by unfold Zax; omega) ?_) | (refine Z6k h112 h79 (k := 8) (by unfold Zkt; omega) hn ?_) | simp (maxSteps := 2000000) (disch := first | exact zd | fail) only [go_sem, -Int.reduceOfNat, *,Zj1,Zna,ZW,Z51,UY,Zke,repeatL,Zch,List.length_cons,List.length_nil,patch,Nat.zero_add,Nat.add_zero,Nat.mul_one,Nat.one_mul,D.cells,Y4,D.one,List.drop_succ_cons,List.drop_zero,List.cons_append,List.nil_append,List.take_succ_cons,List.take_zero,Nat.reduceAdd,Nat.reduceMul,Nat.reduceSub,Nat.reduceLeDiff,decide_true,Bool.and_self,Bool.and_true,cond_true,Zb,YE] | (refine zb ?_ ?_ <;> intro _ <;> (try (exfalso; omega))) | (intro h2 g3 g4 g5; have hB := Zkf (c := 8) (n := 8) g4 rfl (ZG Vv (ZG Vv (ZG Vv (ZG Vv (ZG Vv (ZG Vv (ZG Vv (ZG Vv bo0))))))))) | (intro h1 g1 g2) | exact ze | (intro _; intros) | (refine ⟨_,by assumption, ?_⟩) | refine And.intro ?_ ?_))
  refine hq _ ⟨by omega,fun j hj => ?_⟩
  rw [g5 j (by omega)]
  repeat rw [Z9 (by omega)]
  rw [Zi (by omega)]
  exact g2 j hj
end
section
variable {h : H} {Q : D → H → Prop} {R : ZM}
theorem vo_b4 {l ty cp a b c d : Nat} {p : D → Tr D → Tr D} {k : FR} {t : Tr D} {h : H} {Q : UU} {R : ZM} (hq : vO E T (.ok (.str [a % 256,b % 256,c % 256,d % 256]) (YF h l (.cells ty [.int .u8 (.ofNat (a % 256)),.int .u8 (.ofNat (b % 256)),.int .u8 (.ofNat (c % 256)),.int .u8 (.ofNat (d % 256))]))) p k t Q R) : vO E T (Zuw (.row l 0 4 cp) (YF h l (.cells ty [.int .u8 (.ofNat (a % 256)),.int .u8 (.ofNat (b % 256)),.int .u8 (.ofNat (c % 256)),.int .u8 (.ofNat (d % 256))]))) p k t Q R := by
  rw [Zkf (n := 4) Zb rfl (ZG Vv (ZG Vv (ZG Vv (ZG Vv bo0))))]; exact hq
theorem vc49b (h159 : T 159 = Zjg) (h111 : T 111 = Zj9) (h78 : T 78 = Z0k) (h112 : T 112 = Zoe) (h79 : T 79 = Z6c) (h80 : T 80 = Z1z) (h49 : T 49 = Z7q) (hq : ∀ h',h.next ≤ h'.next → (∀ l,l < h.next → hget h'.mem l = hget h.mem l) → Q (.tup [.str [127,69,76,70],.int .i64 (.ofNat 0)]) h') : VC E T 49 [.int .u64 (.ofNat 2135247942),.int .i64 (.ofNat 4),.v (.bool false)] h Q R := by
  refine Zd h49 ?_
  unfold Zf
  repeat' (with_reducible (first | refine zc ?_ | refine Zan ?_ | (refine Zz0 h159 h111 h78 (by unfold Zax; omega) ?_) | (refine Z6k h112 h79 (k := 4) (by unfold Zkt; omega) (by decide) ?_) | simp (maxSteps := 2000000) (disch := first | exact zd | fail) only [go_sem, -Int.reduceOfNat, *,Zj1,Zna,ZW,Z51,UY,Zke,repeatL,Zch,List.length_cons,List.length_nil,patch,Nat.zero_add,Nat.add_zero,Nat.mul_one,Nat.one_mul,D.cells,Y4,D.one,List.drop_succ_cons,List.drop_zero,List.cons_append,List.nil_append,List.take_succ_cons,List.take_zero,Nat.reduceAdd,Nat.reduceMul,Nat.reduceSub,Nat.reduceLeDiff,decide_true,Bool.and_self,Bool.and_true,cond_true,Zb,YE] | (refine zb ?_ ?_ <;> intro _ <;> (try (exfalso; omega))) | (intro h1 g1 g2) | (refine vo_b4 ?_) | exact ze | (intro _; intros) | (refine ⟨_,by assumption, ?_⟩) | refine And.intro ?_ ?_))
  refine hq _ (by simp only [Z7,Z8]; omega) fun j hj => ?_
  repeat rw [Z9 (by omega)]
  rw [Zi (by omega)]
  exact g2 j hj
theorem vc48 (h159 : T 159 = Zjg) (h111 : T 111 = Zj9) (h78 : T 78 = Z0k) (h112 : T 112 = Zoe) (h79 : T 79 = Z6c) (h80 : T 80 = Z1z) (h49 : T 49 = Z7q) (h48 : T 48 = q48) {k n : Nat} (hk : Zkt k) (hn : n < 256 ^ k) (hq : ∀ h',h.next ≤ h'.next → (∀ l,l < h.next → hget h'.mem l = hget h.mem l) → Q (.str (Zeo k n)) h') : VC E T 48 [.int .u64 (.ofNat n),.int .i64 (.ofNat k)] h Q R := by
  refine Zd h48 ?_
  unfold Zf
  rcases hk with rfl | rfl | rfl
  · repeat' (with_reducible (first | refine zc ?_ | refine vc49l2 h159 h111 h78 h112 h79 h80 h49 hn ?_ | simp (maxSteps := 2000000) (disch := first | exact zd | fail) only [go_sem, -Int.reduceOfNat, *] | (refine zb ?_ ?_ <;> intro _ <;> (try (exfalso; omega))) | (intro h1 g1) | exact ze | (intro _; intros) | (refine ⟨_,by assumption, ?_⟩) | refine And.intro ?_ ?_))
    exact hq _ g1.1 g1.2
  · repeat' (with_reducible (first | refine zc ?_ | refine vc49l4 h159 h111 h78 h112 h79 h80 h49 hn ?_ | simp (maxSteps := 2000000) (disch := first | exact zd | fail) only [go_sem, -Int.reduceOfNat, *] | (refine zb ?_ ?_ <;> intro _ <;> (try (exfalso; omega))) | (intro h1 g1) | exact ze | (intro _; intros) | (refine ⟨_,by assumption, ?_⟩) | refine And.intro ?_ ?_))
    exact hq _ g1.1 g1.2
  · repeat' (with_reducible (first | refine zc ?_ | refine vc49l8 h159 h111 h78 h112 h79 h80 h49 hn ?_ | simp (maxSteps := 2000000) (disch := first | exact zd | fail) only [go_sem, -Int.reduceOfNat, *] | (refine zb ?_ ?_ <;> intro _ <;> (try (exfalso; omega))) | (intro h1 g1) | exact ze | (intro _; intros) | (refine ⟨_,by assumption, ?_⟩) | refine And.intro ?_ ?_))
    exact hq _ g1.1 g1.2
end
section
variable {h : H} {Q : D → H → Prop} {R : ZM}
def q21 : ZV := Zbg Zf (fun t h => .ok (Gt 4 t) h)
 (Z0 (Z1<|fo (Zai 45 (Gt 0)) (St 2)<|fo (Zh (kS [])) (St 4)<|Z2)
 (Z0 (Xf<|Zg8 0 [] (Zw 48 [(kD (.int .u64 (.ofNat 0))),(kI 4)]) (St 6)<|Ze (u1 (Zt 0) (Gt 2)) (St 7)<|Xw 2 [0] 1 (Gt 7) (Zl (Gt 7)) (St 8)<|Ze (VM .u64 (Gt 8)) (St 9)<|Zju 4 [] (Zw 48 [(Gt 9),(kI 4)]) (St 10)<|Ze (Za YS .add 9 (.tmp 6) (.tmp 10) (Gt 6) (Gt 10)) (St 11)<|Zju 6 [5] (Zw 48 [(kD (.int .u64 (.ofNat 0))),(kI 8)]) (St 12)<|Ze (Za YS .add 9 (.tmp 11) (.tmp 12) (Gt 11) (Gt 12)) (St 13)<|Zju 8 [5,7] (Zw 48 [(kD (.int .u64 (.ofNat 0))),(kI 8)]) (St 14)<|Ze (Za YS .add 9 (.tmp 13) (.tmp 14) (Gt 13) (Gt 14)) (St 15)<|Ze (Zh (Gt 15)) (St 5)<|Xg)
 (Z0 (Xf<|Ze (Zh (Gt 5)) (St 16)<|Ze (Zh (Gt 1)) (St 17)<|Ze (VM .u64 (Gt 17)) (St 18)<|Zg8 3 [0] (Zw 48 [(Gt 18),(kI 8)]) (St 19)<|Ze (u1 (Zt 1) (Gt 2)) (St 20)<|Xw 5 [0,1,2,3] 1 (Gt 20) (Zl (Gt 20)) (St 21)<|Ze (u1 Vm (Gt 21)) (St 22)<|Ze (VM .u64 (Gt 22)) (St 23)<|Zju 8 [0] (Zw 48 [(Gt 23),(kI 8)]) (St 24)<|Ze (Za YS .add 9 (.tmp 19) (.tmp 24) (Gt 19) (Gt 24)) (St 25)<|Ze (Za YS .add 9 (.tmp 16) (.tmp 25) (Gt 16) (Gt 25)) (St 26)<|Ze (Zh (Gt 26)) (St 5)<|Xg)
 (Z0 (Z1<|mM 5 27<|mK 48 [(kD (.int .u64 (.ofNat 0))),(kI 4)] 28<|fo (Za YS .add 9 (.tmp 27) (.tmp 28) (Gt 27) (Gt 28)) (St 29)<|mK 48 [(kD (.int .u64 (.ofNat 0))),(kI 4)] 30<|fo (Za YS .add 9 (.tmp 29) (.tmp 30) (Gt 29) (Gt 30)) (St 31)<|mK 48 [(kD (.int .u64 (.ofNat 1))),(kI 8)] 32<|fo (Za YS .add 9 (.tmp 31) (.tmp 32) (Gt 31) (Gt 32)) (St 33)<|mK 48 [(kD (.int .u64 (.ofNat 0))),(kI 8)] 34<|fo (Za YS .add 9 (.tmp 33) (.tmp 34) (Gt 33) (Gt 34)) (St 35)<|mM 35 4<|Z2)
 Zv))))
def q23 : ZV := Zbg Zf (fun t h => .ok (Gt 4 t) h)
 (Z0 (Z1<|fo (Zh (kS [])) (St 4)<|Z2)
 (Z0 (Z1<|mK 49 [(kD (.int .u64 (.ofNat 2135247942))),(kI 4),(kD (.v (.bool false)))] 9<|mM 9 8<|mE 0 8 10<|mE 1 8 11<|mM 10 5<|mM 11 6<|Z2)
 (Z0 (Z1<|mM 5 12<|fo (Za YS .add 9 (.tmp 12) (.const (.string ⟨#[2,1,1,0]⟩)) (Gt 12) (kS [2,1,1,0])) (St 13)<|mK 50 [(kS [0]),(kI 8)] 14<|fo (Za YS .add 9 (.tmp 13) (.tmp 14) (Gt 13) (Gt 14)) (St 15)<|mM 15 7<|Z2)
 (Z0 (Z1<|mM 7 16<|mK 48 [(kD (.int .u64 (.ofNat 1))),(kI 2)] 17<|mK 48 [(kD (.int .u64 (.ofNat 62))),(kI 2)] 18<|fo (Za YS .add 9 (.tmp 17) (.tmp 18) (Gt 17) (Gt 18)) (St 19)<|mK 48 [(kD (.int .u64 (.ofNat 1))),(kI 4)] 20<|fo (Za YS .add 9 (.tmp 19) (.tmp 20) (Gt 19) (Gt 20)) (St 21)<|mK 48 [(kD (.int .u64 (.ofNat 0))),(kI 8)] 22<|fo (Za YS .add 9 (.tmp 21) (.tmp 22) (Gt 21) (Gt 22)) (St 23)<|mK 48 [(kD (.int .u64 (.ofNat 0))),(kI 8)] 24<|fo (Za YS .add 9 (.tmp 23) (.tmp 24) (Gt 23) (Gt 24)) (St 25)<|mM 0 26<|fo (VM .u64 (Gt 26)) (St 27)<|mK 48 [(Gt 27),(kI 8)] 28<|fo (Za YS .add 9 (.tmp 25) (.tmp 28) (Gt 25) (Gt 28)) (St 29)<|fo (Za YS .add 9 (.tmp 16) (.tmp 29) (Gt 16) (Gt 29)) (St 30)<|mM 30 7<|Z2)
 (Z0 (Z1<|mM 7 31<|mK 48 [(kD (.int .u64 (.ofNat 0))),(kI 4)] 32<|mK 48 [(kD (.int .u64 (.ofNat 64))),(kI 2)] 33<|fo (Za YS .add 9 (.tmp 32) (.tmp 33) (Gt 32) (Gt 33)) (St 34)<|mK 48 [(kD (.int .u64 (.ofNat 0))),(kI 2)] 35<|fo (Za YS .add 9 (.tmp 34) (.tmp 35) (Gt 34) (Gt 35)) (St 36)<|mK 48 [(kD (.int .u64 (.ofNat 0))),(kI 2)] 37<|fo (Za YS .add 9 (.tmp 36) (.tmp 37) (Gt 36) (Gt 37)) (St 38)<|mK 48 [(kD (.int .u64 (.ofNat 64))),(kI 2)] 39<|fo (Za YS .add 9 (.tmp 38) (.tmp 39) (Gt 38) (Gt 39)) (St 40)<|fo (Za YS .add 9 (.tmp 31) (.tmp 40) (Gt 31) (Gt 40)) (St 41)<|mM 41 7<|Z2)
 (Z0 (Z1<|mM 7 42<|mM 1 43<|fo (VM .u64 (Gt 43)) (St 44)<|mK 48 [(Gt 44),(kI 2)] 45<|fo (Za YS .add 9 (.tmp 42) (.tmp 45) (Gt 42) (Gt 45)) (St 46)<|mK 48 [(kD (.int .u64 (.ofNat 0))),(kI 2)] 47<|fo (Za YS .add 9 (.tmp 46) (.tmp 47) (Gt 46) (Gt 47)) (St 48)<|mM 48 4<|Z2)
 Zv))))))
theorem vc50z (h50 : T 50 = YK U8) (hq : Q (.str [0,0,0,0,0,0,0,0]) h) : VC E T 50 [.str [0],.int .i64 (.ofNat 8)] h Q R := Zbr h50 hq
theorem Znd {k n : Nat} : (Zeo k n).length = k := by simp [Zeo]
def Zgv (kd n i : Nat) : List Nat := Zeo 4 0 ++ Zeo 4 kd ++ Zeo 8 0 ++ Zeo 8 0 ++ (Zeo 8 i ++ Zeo 8 n) ++ Zeo 4 0 ++ Zeo 4 0 ++ Zeo 8 1 ++ Zeo 8 0
def Zcm (tb n : Nat) : List Nat := [127,69,76,70] ++ [2,1,1,0] ++ [0,0,0,0,0,0,0,0] ++ (Zeo 2 1 ++ Zeo 2 62 ++ Zeo 4 1 ++ Zeo 8 0 ++ Zeo 8 0 ++ Zeo 8 tb) ++ (Zeo 4 0 ++ Zeo 2 64 ++ Zeo 2 0 ++ Zeo 2 0 ++ Zeo 2 64) ++ Zeo 2 n ++ Zeo 2 0
theorem vc21 (h159 : T 159 = Zjg) (h111 : T 111 = Zj9) (h78 : T 78 = Z0k) (h112 : T 112 = Zoe) (h79 : T 79 = Z6c) (h80 : T 80 = Z1z) (h49 : T 49 = Z7q) (h48 : T 48 = q48) (h21 : T 21 = q21) {kd i : Nat} {data : List Nat} (hkd : kd < 4294967296) (hi : i < 4294967296) (hd : data.length < 4294967296) (hq : ∀ h',h.next ≤ h'.next → (∀ l,l < h.next → hget h'.mem l = hget h.mem l) → Q (.str (Zgv kd data.length i)) h') : VC E T 21 [.agg [.int .u32 (.ofNat kd),.str data],.int .i64 (.ofNat i)] h Q R := by
  simp only [Zgv,List.append_assoc,List.cons_append,List.nil_append] at hq
  refine Zd h21 ?_
  unfold Zf
  repeat' (with_reducible (first | refine zc ?_ | (refine (vc48 h159 h111 h78 h112 h79 h80 h49 h48 (by unfold Zkt; omega) (by simp only [Nat.reducePow]; omega) ?_)) | simp (maxSteps := 2000000)  (disch := first | assumption | omega | (simp only [Z8,Z7,Znd,List.length_append,List.length_cons,List.length_nil]; omega) | fail) only [go_sem, -Int.reduceOfNat, *,Wj,YP] | (refine zb ?_ ?_ <;> intro _ <;> (try (exfalso; omega))) | (intro h1 g1 g2) | (show Q _ _; refine hq _ ?_ ?_) | exact ze | (intro _; intros) | (refine ⟨_,by assumption, ?_⟩) | refine And.intro ?_ ?_))
theorem vc23 (h159 : T 159 = Zjg) (h111 : T 111 = Zj9) (h78 : T 78 = Z0k) (h112 : T 112 = Zoe) (h79 : T 79 = Z6c) (h80 : T 80 = Z1z) (h49 : T 49 = Z7q) (h48 : T 48 = q48) (h50 : T 50 = YK U8) (h23 : T 23 = q23) {tb n : Nat} (ht : tb < 4294967296) (hn : n < 65536) (hq : ∀ h',h.next ≤ h'.next → (∀ l,l < h.next → hget h'.mem l = hget h.mem l) → Q (.str (Zcm tb n)) h') : VC E T 23 [.int .i64 (.ofNat tb),.int .i64 (.ofNat n)] h Q R := by
  simp only [Zcm,List.append_assoc,List.cons_append,List.nil_append] at hq
  refine Zd h23 ?_
  unfold Zf
  repeat' (with_reducible (first | refine zc ?_ | refine vc49b h159 h111 h78 h112 h79 h80 h49 ?_ | refine vc50z h50 ?_ | (refine (vc48 h159 h111 h78 h112 h79 h80 h49 h48 (by unfold Zkt; omega) (by simp only [Nat.reducePow]; omega) ?_)) | simp (maxSteps := 2000000)  (disch := first | assumption | omega | (simp only [Z8,Z7,Znd,List.length_append,List.length_cons,List.length_nil]; omega) | fail) only [go_sem, -Int.reduceOfNat, *,Wj,YP] | (refine zb ?_ ?_ <;> intro _ <;> (try (exfalso; omega))) | (intro h1 g1 g2) | (show Q _ _; refine hq _ ?_ ?_) | exact ze | (intro _; intros) | (refine ⟨_,by assumption, ?_⟩) | refine And.intro ?_ ?_))
end
end Run
end
end Go.Abs
