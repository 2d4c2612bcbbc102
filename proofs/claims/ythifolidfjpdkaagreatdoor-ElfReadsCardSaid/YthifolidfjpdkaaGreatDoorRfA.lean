/- Numbers as bytes: walks of the program. -/
import Derived.Test.YthifolidfjpdkaaGreatDoorReB
set_option linter.unusedVariables false
set_option linter.unusedSimpArgs false
namespace Go.Abs
noncomputable section
namespace Run
variable {E : Env} {T : Nat → Yd}
set_option maxHeartbeats 4000000
set_option maxRecDepth 100000
theorem Zpz {G : Prop} (g : G := by
  repeat' (with_reducible (first | refine Za ?_ | refine Zb ?_ | refine Zk ?_ | refine Zj ?_ | refine Zd ?_ | refine Z3 ?_ | refine Zc ?_ | refine Zl ?_ | refine Z9 ?_ | refine Z4 ?_ | refine Ze ?_ | refine WV ?_ | simp (maxSteps := 2000000) (disch := first | assumption | omega | (simp only [Z1, Z0, List.length_cons, List.length_nil, List.length_append, List.length_take, List.length_drop]; omega) | fail) only [go_sem, -Int.reduceOfNat, *, Zga, List.length_cons, List.length_nil, patch, Nat.zero_add, Nat.mul_one, D.cells, Y8, D.one, List.drop_succ_cons, List.drop_zero, List.cons_append, List.nil_append, List.take_succ_cons, List.take_zero, Nat.reduceAdd, Nat.reduceLeDiff, decide_true, Bool.and_self, Bool.and_true, cond_true, Zr] | ((first | refine Zn ?_ ?_ | refine Zh ?_ ?_ | refine Zm ?_ ?_ | refine Zf ?_ ?_ | refine Zg ?_ ?_ | refine Z5 ?_ ?_) <;> intro _ <;> (try (exfalso; omega))) | (show Q _ _; refine hq _ ?_ ?_ ?_) | rfl | assumption | exact trivial | (show _ < _; omega) | (show _ ≤ _; omega) | (show ¬ (_ : Nat) = _; omega) | (show (_ : Nat) ≠ _; omega) | (show (_ : Nat) = _; omega) | (intro _; intros) | (refine ⟨_, by assumption, ?_⟩) | refine And.intro ?_ ?_))) : G := g
attribute [local go_sem] Zdv UJ Zdx UH UQ UG UM Zdu UL UK Zdt Wa US W7 UN V1 W9 YL V3 Zbi UU V0 UO UR UT V4 X8 V7 UP W8 W6 UI V5 V6 Zdz Zd0 UW Zaf Zab Wc Wb YM Zaa UZ Zdy Va Zai Zac Zag Vd Zad UX Zae UV V9 UY Vb Zah V8 Vc Zd1 Zak Zd5 Zaj Zd2 Zi0 Zi1 Ziy Ziz Zd3 Zd4 Za1 Za0 Za2 Za7 Za6 Za8 Zek Zej VA VB Vz Zd9 Vx Vy Vw Vt Zaw Wk Vq Vr Wm Wn Zaz Zay Zax Wj Xo W1 Zao Zeb Zeg Zpv Xr Xq Vo Zau Wo Vp Yu Y5 Xt YS WK patch YQ YR Xn Xm Wy Wx X1 X2 W5 VG Wu Xu YV Xp Wr XP Xs YO Yf YT mem_cons Zei Zea Xk Option.map_some Option.map_none Vv Wp Ws Wq Zav Vu Wl Vs YP X4 XA Xv XB Wz Xw Xz Xx YW Xy Vl Wh Vn Vi Zas Vj Vm Vk Wi Wg YD VT WH Zfx Zcy Zc3 Zb3 Zeo Zsi Xg XU VH WQ YN Xl YU Yv Yn X7 ZZ X5 List.drop_succ_cons List.drop_zero List.drop_nil List.take_succ_cons List.take_zero List.take_nil List.length_cons List.length_nil List.length_append List.cons_append List.nil_append Nat.reduceAdd Nat.reduceEqDiff Nat.reduceLeDiff Nat.reduceLT List.cons.injEq reduceCtorEq eq_self not_true_eq_false not_false_eq_true and_false false_and true_or or_true decide_true decide_false Bool.and_self Bool.and_true Bool.true_and Bool.true_or Bool.or_true Bool.false_or Bool.or_false Bool.false_and Bool.and_false Bool.not_true Bool.not_false cond_true cond_false true_and and_true Zex Zef Zen reduceIte Nat.add_zero Nat.zero_add Nat.add_sub_cancel Nat.reduceMul Nat.reduceSub Nat.reduceBEq List.map_cons List.map_nil Z1 Z0 Yw ZG Zr Zv Wd Zd6 XQ Yo Y0 Wf We XH XG and_assoc exists_and_left D.str.injEq Nat.lt_irrefl Nat.not_lt_zero true_implies false_implies implies_true forall_const ge_iff_le gt_iff_lt Nat.sub_zero List.append_assoc Option.some.injEq AObj.cells.injEq D.int.injEq D.ptr.injEq Int.ofNat.injEq exists_eq_left' D.v.injEq Value.bool.injEq D.agg.injEq Nat.mul_one Zlk Zu4
section
variable {h : H} {Q : D → H → Prop} {R : Y1}
def Z2z : Yd := Uz Zs (fun t h => .ok (.tup [(Gt 6) t, (Gt 7) t]) h)
 (Z2 (Z7<|fo (ZC (kS [])) (St 6)<|fo (ZC (kI 0)) (St 7)<|Z8)
 (Z2 (ZM 0 (Z2 (Z7<|mM 1 11<|mK 78 [(Gt 11)] 12<|fo (u1 (Zft .not) (Gt 12)) (St 13)<|mM 13 10<|Z8)
 (Zt (Gt 10) (Z2 (Z7<|fo (ZC (kS [])) (St 6)<|fo (ZC (kI 2)) (St 7)<|Z8)
 ZF) (Z2 (Z7 <| mM 0 15 <| mM 1 16 <| fo (Zq Z1b .mul 3 (.const (.int .i64 (.ofNat 8))) (.tmp 16) (kI 8) (Gt 16)) (St 17) <| mK 79 [(Gt 15), (Gt 17)] 18 <| fo (u1 (Zft .not) (Gt 18)) (St 19) <| mM 19 14 <| Z8)
 (Zt (Gt 14) (Z2 (Z7<|fo (ZC (kS [])) (St 6)<|fo (ZC (kI 5)) (St 7)<|Z8)
 ZF) ZJ)))))
 (Z2 (Z7<|mM 1 20<|fo (u2 (Zje 5 1 1 [(.int .u8 (.ofNat 0))]) (Gt 20) (Gt 20)) (St 21)<|mM 21 8<|Z8)
 (Z2 (Z2 (Z7<|mM 1 22<|fo (ZC (kI 0)) (St 23)<|Z8)
 (ZM 1 (Xi (Z2 (Z7<|fo (Zq WH .lss 3 (.tmp 23) (.tmp 22) (Gt 23) (Gt 22)) (St 24)<|Z8)
 (Z2 (Zt (Gt 24) ZJ (WS 1))
 (Z2 (ZM 2 (Z2 (Z7<|mM 23 25<|mM 25 9<|Z8)
 (Z7<|mM 8 26<|mM 1 27<|fo (Zq Zgh .sub 3 (.tmp 27) (.const (.int .i64 (.ofNat 1))) (Gt 27) (kI 1)) (St 28)<|mM 9 29<|fo (Zq Zgh .sub 3 (.tmp 28) (.tmp 29) (Gt 28) (Gt 29)) (St 30)<|mM 0 31<|mM 9 32<|fo (Zq Z1b .mul 3 (.const (.int .i64 (.ofNat 8))) (.tmp 32) (kI 8) (Gt 32)) (St 33)<|fo (Zpj .shr 36 (.tmp 31) (.tmp 33) (Gt 31) (Gt 33)) (St 34)<|fo (WT .u8 (Gt 34)) (St 35)<|fo (u2 (Ym 1) (Gt 26) (Gt 30)) (St 36)<|mS 36 (Gt 35)<|Z8)))
 (Z7<|fo (Zq YJ .add 3 (.tmp 23) (.const (.int .i64 (.ofNat 1))) (Gt 23) (kI 1)) (St 37)<|mM 37 23<|Z8)))))))
 (Z2 (Z2 (Z7<|mM 2 38<|Z8)
 (Zt (Gt 38) (Z7<|mM 8 39<|mK 80 [(Gt 39)] 40<|Z8) ZJ))
 (Z2 (Z7<|mM 8 41<|fo (u1 Zkf (Gt 41)) (St 42)<|mM 42 6<|fo (ZC (kI 0)) (St 7)<|Z8)
 ZF))))))
def Zx8 : Yd := Uz Zs (fun t h => .ok (.tup []) h)
 (Z2 (Z7<|mM 0 4<|fo (u1 YI (Gt 4)) (St 5)<|fo (Zq Zgh .sub 3 (.tmp 5) (.const (.int .i64 (.ofNat 1))) (Gt 5) (kI 1)) (St 6)<|fo (ZC (kI 0)) (St 2)<|mM 6 3<|Z8)
 (ZM 0 (Xi (Z2 (Z2 (Z7<|mM 2 7<|mM 3 8<|fo (Zq WH .lss 3 (.tmp 7) (.tmp 8) (Gt 7) (Gt 8)) (St 9)<|Z8)
 (Zt (Gt 9) ZJ (WS 0)))
 (Z2 (ZM 1 (YY<|Zu (ZC (Gt 0)) (St 14)<|Zu (ZC (Gt 2)) (St 15)<|Zu (ZC (Gt 0)) (St 16)<|Zu (ZC (Gt 3)) (St 17)<|Zu (ZC (Gt 0)) (St 18)<|Zu (ZC (Gt 3)) (St 19)<|Zu (u2 (Ym 1) (Gt 18) (Gt 19)) (St 20)<|Xj 7 [0,1,2,3] 1 (Gt 20) (ZO (Gt 20)) (St 21)<|Zu (ZC (Gt 0)) (St 22)<|Zu (ZC (Gt 2)) (St 23)<|Zu (u2 (Ym 1) (Gt 22) (Gt 23)) (St 24)<|Xj 11 [0,1,2,3,4,5,6,7] 1 (Gt 24) (ZO (Gt 24)) (St 25)<|Zu (u2 (Ym 1) (Gt 14) (Gt 15)) (St 26)<|Zfw 13 [2,3] (ZV 1 (Gt 26) (Gt 21)) p0<|Zu (u2 (Ym 1) (Gt 16) (Gt 17)) (St 27)<|Zfw 15 [] (ZV 1 (Gt 27) (Gt 25)) p0<|YZ))
 (Z7<|mM 2 10<|fo (Zq YJ .add 3 (.tmp 10) (.const (.int .i64 (.ofNat 1))) (Gt 10) (kI 1)) (St 11)<|mM 3 12<|fo (Zq Zgh .sub 3 (.tmp 12) (.const (.int .i64 (.ofNat 1))) (Gt 12) (kI 1)) (St 13)<|mM 11 2<|mM 13 3<|Z8))))))
def q48 : Yd := Uz Zs (fun t h => .ok (Gt 4 t) h)
 (Z2 (Z7<|fo (ZC (kS [])) (St 4)<|Z8)
 (Z2 (Z7<|mM 0 8<|mM 1 9<|mK 49 [(Gt 8),(Gt 9),(kD (.v (.bool true)))] 10<|mM 10 7<|mE 0 7 11<|mE 1 7 12<|mM 11 5<|mM 12 6<|Z8)
 (Z2 (Z7<|mM 5 13<|mM 13 4<|Z8)
 ZF)))
def Z1w : Yd := Uz Zs (fun t h => .ok (Gt 4 t) h)
 (Z2 (Z7<|fo (ZC (kD (.v (.bool false)))) (St 4)<|Z8)
 (Z2 (Z7<|mM 0 5<|mM 1 6<|mK 112 [(Gt 6)] 7<|fo (Zq Zfx .leq 36 (.tmp 5) (.tmp 7) (Gt 5) (Gt 7)) (St 8)<|mM 8 4<|Z8)
 ZF))
def Zmd : Yd := Uz Zs (fun t h => .ok (Gt 2 t) h)
 (Z2 (Z7<|fo (ZC (kD (.int .u64 (.ofNat 0)))) (St 2)<|Z8)
 (Z2 (Z2 (Z7<|mM 0 3<|fo (Zq Zfx .leq 3 (.tmp 3) (.const (.int .i64 (.ofNat 0))) (Gt 3) (kI 0)) (St 4)<|Z8)
 (Zt (Gt 4) (Z2 (Z7<|fo (ZC (kD (.int .u64 (.ofNat 0)))) (St 2)<|Z8)
 ZF) ZJ))
 (Z2 (Z7<|mM 0 5<|fo (fbi .min #[3,3] 3 #[false,true] [(Gt 5),(kI 64)]) (St 6)<|fo (Zq Zgh .sub 3 (.const (.int .i64 (.ofNat 64))) (.tmp 6) (kI 64) (Gt 6)) (St 7)<|fo (Zpj .shr 36 (.const (.int .u64 (.ofNat 18446744073709551615))) (.tmp 7) (kD (.int .u64 (.ofNat 18446744073709551615))) (Gt 7)) (St 8)<|mM 8 2<|Z8)
 ZF)))
section
theorem Zh6 {n : Nat} : Zb1 .u8 (.ofNat n) = .ofNat (n % 256) := by
  rw [Zh7, Zfk]
  simp only [Zmu, Zsg]
  by_cases h : n ≤ 255
  · rw [show Nat.ble n 255 = true from Nat.ble_eq_true_of_le h, cond_true, Nat.mod_eq_of_lt (by omega)]
  · rw [show Nat.ble n 255 = false by cases hb : Nat.ble n 255 with | false => rfl | true => exact absurd (Nat.le_of_ble_eq_true hb) h, cond_false]
    simp only [IntKind.wrap, IntKind.bits, IntKind.signed, Bool.false_and, Bool.false_eq_true, if_false]
    have e1 : (Int.ofNat n) = (n : Int) := rfl
    have e2 : Int.ofNat (n % 256) = ((n % 256 : Nat) : Int) := rfl
    have e3 : (2 : Int) ^ 8 = 256 := by decide
    rw [e1, e2, e3]
    omega
theorem Zk9 {m n : Nat} (h : m * n ≤ 9223372036854775807) : Z1b .i64 (.ofNat m) (.ofNat n) = .int .i64 (.ofNat (m * n)) := by
  show D.int .i64 (Zb1 .i64 (iMul (.ofNat m) (.ofNat n))) = _
  rw [Zv4, show Int.ofNat m * Int.ofNat n = Int.ofNat (m * n) from rfl, Zgr h]
end
def Zc2 (k n : Nat) : List Nat := (List.range k).map fun i => n / 2 ^ min (8 * i) 64 % 256
def Ziu (k : Nat) : Prop := k = 2 ∨ k = 4 ∨ k = 8
theorem vc112 (h112 : T 112 = Zmd) {k : Nat} (hk : Ziu k) (hq : Q (.int .u64 (.ofNat (256 ^ k - 1))) h) : VC E T 112 [.int .i64 (.ofNat (8 * k))] h Q R := by
  rcases hk with rfl | rfl | rfl
  all_goals
    refine Zp h112 ?_
    unfold Zs
    repeat' (with_reducible (first | refine Za ?_ | refine Zb ?_ | refine Zk ?_ | refine Zj ?_ | refine Zd ?_ | refine Z3 ?_ | refine Zc ?_ | refine Zl ?_ | refine Z9 ?_ | refine Z4 ?_ | refine Ze ?_ | simp (maxSteps := 2000000) (disch := first | assumption | omega | (simp only [Z1, Z0, List.length_cons, List.length_nil, List.length_append, List.length_take, List.length_drop]; omega) | fail) only [go_sem, -Int.reduceOfNat, *, Zlk, Zcb, ZZ, Z1l] | ((first | refine Zn ?_ ?_ | refine Zh ?_ ?_ | refine Zm ?_ ?_ | refine Zf ?_ ?_ | refine Zg ?_ ?_ | refine Z5 ?_ ?_) <;> intro _ <;> (try (exfalso; omega))) | (show Q _ _; exact hq) | assumption | exact trivial | (show _ < _; omega) | (show _ ≤ _; omega) | (show ¬ (_ : Nat) = _; omega) | (show (_ : Nat) ≠ _; omega) | (show (_ : Nat) = _; omega) | (intro _; intros) | (refine ⟨_, by assumption, ?_⟩) | refine And.intro ?_ ?_))
  · rw [show 18446744073709551615 / 2 ^ min (64 - min 16 64) 64 = 256 ^ 2 - 1 by decide]; exact hq
  · rw [show 18446744073709551615 / 2 ^ min (64 - min 32 64) 64 = 256 ^ 4 - 1 by decide]; exact hq
  · rw [show 18446744073709551615 / 2 ^ min (64 - min 64 64) 64 = 256 ^ 8 - 1 by decide]; exact hq
theorem Z13 (h112 : T 112 = Zmd) (h79 : T 79 = Z1w) {k n : Nat} (hk : Ziu k) (hn : n < 256 ^ k) (hq : Q (.v (.bool true)) h) : VC E T 79 [.int .u64 (.ofNat n), .int .i64 (.ofNat (8 * k))] h Q R := by
  have h2 : ¬ 256 ^ k - 1 < n := by omega
  refine Zp h79 ?_
  unfold Zs
  repeat' (with_reducible (first | refine Za ?_ | refine Zb ?_ | refine Zk ?_ | refine Zj ?_ | refine Zd ?_ | refine Z3 ?_ | refine Zc ?_ | refine Zl ?_ | refine Z9 ?_ | refine Z4 ?_ | refine Ze ?_ | refine vc112 h112 hk ?_ | simp (maxSteps := 2000000) (disch := first | assumption | omega | (simp only [Z1, Z0, List.length_cons, List.length_nil, List.length_append, List.length_take, List.length_drop]; omega) | fail) only [go_sem, -Int.reduceOfNat, *] | ((first | refine Zn ?_ ?_ | refine Zh ?_ ?_ | refine Zm ?_ ?_ | refine Zf ?_ ?_ | refine Zg ?_ ?_ | refine Z5 ?_ ?_) <;> intro _ <;> (try (exfalso; omega))) | (show Q _ _; exact hq) | assumption | exact trivial | (show _ < _; omega) | (show _ ≤ _; omega) | (show ¬ (_ : Nat) = _; omega) | (show (_ : Nat) ≠ _; omega) | (show (_ : Nat) = _; omega) | (intro _; intros) | (refine ⟨_, by assumption, ?_⟩) | refine And.intro ?_ ?_))
end
section
variable {h : H} {Q : D → H → Prop} {R : Y1}
theorem vc80r2 (h80 : T 80 = Zx8) {l c ty x0 x1 : Nat} (hm : hget h.mem l = some (.cells ty [.int .u8 (.ofNat x0), .int .u8 (.ofNat x1)])) (hq : ∀ h', h.next = h'.next → hget h'.mem l = some (.cells ty [.int .u8 (.ofNat x1), .int .u8 (.ofNat x0)]) → (∀ j, j ≠ l → hget h'.mem j = hget h.mem j) → Q (.tup []) h') : VC E T 80 [.row l 0 2 c] h Q R := by
  refine Zp h80 ?_
  unfold Zs
  exact Zpz
theorem vc80r4 (h80 : T 80 = Zx8) {l c ty x0 x1 x2 x3 : Nat} (hm : hget h.mem l = some (.cells ty [.int .u8 (.ofNat x0), .int .u8 (.ofNat x1), .int .u8 (.ofNat x2), .int .u8 (.ofNat x3)])) (hq : ∀ h', h.next = h'.next → hget h'.mem l = some (.cells ty [.int .u8 (.ofNat x3), .int .u8 (.ofNat x2), .int .u8 (.ofNat x1), .int .u8 (.ofNat x0)]) → (∀ j, j ≠ l → hget h'.mem j = hget h.mem j) → Q (.tup []) h') : VC E T 80 [.row l 0 4 c] h Q R := by
  refine Zp h80 ?_
  unfold Zs
  exact Zpz
theorem vc80r8 (h80 : T 80 = Zx8) {l c ty x0 x1 x2 x3 x4 x5 x6 x7 : Nat} (hm : hget h.mem l = some (.cells ty [.int .u8 (.ofNat x0), .int .u8 (.ofNat x1), .int .u8 (.ofNat x2), .int .u8 (.ofNat x3), .int .u8 (.ofNat x4), .int .u8 (.ofNat x5), .int .u8 (.ofNat x6), .int .u8 (.ofNat x7)])) (hq : ∀ h', h.next = h'.next → hget h'.mem l = some (.cells ty [.int .u8 (.ofNat x7), .int .u8 (.ofNat x6), .int .u8 (.ofNat x5), .int .u8 (.ofNat x4), .int .u8 (.ofNat x3), .int .u8 (.ofNat x2), .int .u8 (.ofNat x1), .int .u8 (.ofNat x0)]) → (∀ j, j ≠ l → hget h'.mem j = hget h.mem j) → Q (.tup []) h') : VC E T 80 [.row l 0 8 c] h Q R := by
  refine Zp h80 ?_
  unfold Zs
  exact Zpz
end
section
variable {h : H} {Q : D → H → Prop} {R : Y1}
theorem ZR {b : Nat} {cs : List D} {l : List Nat} (hb : b < 256) (h : W2 cs = some l) : W2 (.int .u8 (.ofNat b) :: cs) = some (b :: l) := by
  unfold W2
  rw [h, XU, decide_eq_true hb]
  rfl
theorem WO {a : Nat} : a % 256 < 256 := Nat.mod_lt _ (by decide)
theorem bo0 : W2 [] = some [] := by unfold W2; rfl
theorem Gr.of {a b c : H} (g : Gr a b) {l : Nat} (hl : a.next ≤ l) (hn : b.next ≤ c.next) (hk : ∀ j, j ≠ l → hget c.mem j = hget b.mem j) : Gr a c := ⟨Nat.le_trans g.1 hn, fun j hj => (hk j (by omega)).trans (g.2 j hj)⟩
theorem vc49l2 (h159 : T 159 = Zhn) (h111 : T 111 = Zia) (h78 : T 78 = Zw7) (h112 : T 112 = Zmd) (h79 : T 79 = Z1w) (h80 : T 80 = Zx8) (h49 : T 49 = Z2z) {n : Nat} (hn : n < 256 ^ 2) (hq : ∀ h', Gr h h' → Q (.tup [.str (Zc2 2 n), .int .i64 (.ofNat 0)]) h') : VC E T 49 [.int .u64 (.ofNat n), .int .i64 (.ofNat 2), .v (.bool true)] h Q R := by
  refine Zp h49 ?_
  unfold Zs
  repeat' (with_reducible (first | refine Za ?_ | refine Zb ?_ | refine Zk ?_ | refine Zj ?_ | refine Zd ?_ | refine Z3 ?_ | refine Zc ?_ | refine Zl ?_ | refine Z9 ?_ | refine Z4 ?_ | refine Ze ?_ | refine WV ?_ | refine vc80r2 h80 Zr ?_ | (refine Zwo h159 h111 h78 (by unfold Ue; omega) ?_) | (refine Z13 h112 h79 (k := 2) (by unfold Ziu; omega) hn ?_) | simp (maxSteps := 2000000) (disch := first | assumption | omega | (simp only [Z1, Z0, List.length_cons, List.length_nil, List.length_append, List.length_take, List.length_drop]; omega) | fail) only [go_sem, -Int.reduceOfNat, *, Zh6, Zk9, ZZ, Z1l, Zbi, Zk7, repeatL, Zga, List.length_cons, List.length_nil, patch, Nat.zero_add, Nat.add_zero, Nat.mul_one, Nat.one_mul, D.cells, Y8, D.one, List.drop_succ_cons, List.drop_zero, List.cons_append, List.nil_append, List.take_succ_cons, List.take_zero, Nat.reduceAdd, Nat.reduceMul, Nat.reduceSub, Nat.reduceLeDiff, decide_true, Bool.and_self, Bool.and_true, cond_true, Zr, Xh] | ((first | refine Zn ?_ ?_ | refine Zh ?_ ?_ | refine Zm ?_ ?_ | refine Zf ?_ ?_ | refine Zg ?_ ?_ | refine Z5 ?_ ?_) <;> intro _ <;> (try (exfalso; omega))) | (intro h2 g3 g4 g5; have hB := Zie (c := 2) (n := 2) g4 rfl (ZR WO (ZR WO bo0))) | (intro h1 g1 g2) | assumption | exact trivial | (show _ < _; omega) | (show _ ≤ _; omega) | (show ¬ (_ : Nat) = _; omega) | (show (_ : Nat) ≠ _; omega) | (show (_ : Nat) = _; omega) | (intro _; intros) | (refine ⟨_, by assumption, ?_⟩) | refine And.intro ?_ ?_))
  refine hq _ ⟨by omega, fun j hj => ?_⟩
  rw [g5 j (by omega)]
  repeat rw [Zv (by omega)]
  rw [ZG (by omega)]
  exact g2 j hj
theorem vc49l4 (h159 : T 159 = Zhn) (h111 : T 111 = Zia) (h78 : T 78 = Zw7) (h112 : T 112 = Zmd) (h79 : T 79 = Z1w) (h80 : T 80 = Zx8) (h49 : T 49 = Z2z) {n : Nat} (hn : n < 256 ^ 4) (hq : ∀ h', Gr h h' → Q (.tup [.str (Zc2 4 n), .int .i64 (.ofNat 0)]) h') : VC E T 49 [.int .u64 (.ofNat n), .int .i64 (.ofNat 4), .v (.bool true)] h Q R := by
  refine Zp h49 ?_
  unfold Zs
  repeat' (with_reducible (first | refine Za ?_ | refine Zb ?_ | refine Zk ?_ | refine Zj ?_ | refine Zd ?_ | refine Z3 ?_ | refine Zc ?_ | refine Zl ?_ | refine Z9 ?_ | refine Z4 ?_ | refine Ze ?_ | refine WV ?_ | refine vc80r4 h80 Zr ?_ | (refine Zwo h159 h111 h78 (by unfold Ue; omega) ?_) | (refine Z13 h112 h79 (k := 4) (by unfold Ziu; omega) hn ?_) | simp (maxSteps := 2000000) (disch := first | assumption | omega | (simp only [Z1, Z0, List.length_cons, List.length_nil, List.length_append, List.length_take, List.length_drop]; omega) | fail) only [go_sem, -Int.reduceOfNat, *, Zh6, Zk9, ZZ, Z1l, Zbi, Zk7, repeatL, Zga, List.length_cons, List.length_nil, patch, Nat.zero_add, Nat.add_zero, Nat.mul_one, Nat.one_mul, D.cells, Y8, D.one, List.drop_succ_cons, List.drop_zero, List.cons_append, List.nil_append, List.take_succ_cons, List.take_zero, Nat.reduceAdd, Nat.reduceMul, Nat.reduceSub, Nat.reduceLeDiff, decide_true, Bool.and_self, Bool.and_true, cond_true, Zr, Xh] | ((first | refine Zn ?_ ?_ | refine Zh ?_ ?_ | refine Zm ?_ ?_ | refine Zf ?_ ?_ | refine Zg ?_ ?_ | refine Z5 ?_ ?_) <;> intro _ <;> (try (exfalso; omega))) | (intro h2 g3 g4 g5; have hB := Zie (c := 4) (n := 4) g4 rfl (ZR WO (ZR WO (ZR WO (ZR WO bo0))))) | (intro h1 g1 g2) | assumption | exact trivial | (show _ < _; omega) | (show _ ≤ _; omega) | (show ¬ (_ : Nat) = _; omega) | (show (_ : Nat) ≠ _; omega) | (show (_ : Nat) = _; omega) | (intro _; intros) | (refine ⟨_, by assumption, ?_⟩) | refine And.intro ?_ ?_))
  refine hq _ ⟨by omega, fun j hj => ?_⟩
  rw [g5 j (by omega)]
  repeat rw [Zv (by omega)]
  rw [ZG (by omega)]
  exact g2 j hj
theorem vc49l8 (h159 : T 159 = Zhn) (h111 : T 111 = Zia) (h78 : T 78 = Zw7) (h112 : T 112 = Zmd) (h79 : T 79 = Z1w) (h80 : T 80 = Zx8) (h49 : T 49 = Z2z) {n : Nat} (hn : n < 256 ^ 8) (hq : ∀ h', Gr h h' → Q (.tup [.str (Zc2 8 n), .int .i64 (.ofNat 0)]) h') : VC E T 49 [.int .u64 (.ofNat n), .int .i64 (.ofNat 8), .v (.bool true)] h Q R := by
  refine Zp h49 ?_
  unfold Zs
  repeat' (with_reducible (first | refine Za ?_ | refine Zb ?_ | refine Zk ?_ | refine Zj ?_ | refine Zd ?_ | refine Z3 ?_ | refine Zc ?_ | refine Zl ?_ | refine Z9 ?_ | refine Z4 ?_ | refine Ze ?_ | refine WV ?_ | refine vc80r8 h80 Zr ?_ | (refine Zwo h159 h111 h78 (by unfold Ue; omega) ?_) | (refine Z13 h112 h79 (k := 8) (by unfold Ziu; omega) hn ?_) | simp (maxSteps := 2000000) (disch := first | assumption | omega | (simp only [Z1, Z0, List.length_cons, List.length_nil, List.length_append, List.length_take, List.length_drop]; omega) | fail) only [go_sem, -Int.reduceOfNat, *, Zh6, Zk9, ZZ, Z1l, Zbi, Zk7, repeatL, Zga, List.length_cons, List.length_nil, patch, Nat.zero_add, Nat.add_zero, Nat.mul_one, Nat.one_mul, D.cells, Y8, D.one, List.drop_succ_cons, List.drop_zero, List.cons_append, List.nil_append, List.take_succ_cons, List.take_zero, Nat.reduceAdd, Nat.reduceMul, Nat.reduceSub, Nat.reduceLeDiff, decide_true, Bool.and_self, Bool.and_true, cond_true, Zr, Xh] | ((first | refine Zn ?_ ?_ | refine Zh ?_ ?_ | refine Zm ?_ ?_ | refine Zf ?_ ?_ | refine Zg ?_ ?_ | refine Z5 ?_ ?_) <;> intro _ <;> (try (exfalso; omega))) | (intro h2 g3 g4 g5; have hB := Zie (c := 8) (n := 8) g4 rfl (ZR WO (ZR WO (ZR WO (ZR WO (ZR WO (ZR WO (ZR WO (ZR WO bo0))))))))) | (intro h1 g1 g2) | assumption | exact trivial | (show _ < _; omega) | (show _ ≤ _; omega) | (show ¬ (_ : Nat) = _; omega) | (show (_ : Nat) ≠ _; omega) | (show (_ : Nat) = _; omega) | (intro _; intros) | (refine ⟨_, by assumption, ?_⟩) | refine And.intro ?_ ?_))
  refine hq _ ⟨by omega, fun j hj => ?_⟩
  rw [g5 j (by omega)]
  repeat rw [Zv (by omega)]
  rw [ZG (by omega)]
  exact g2 j hj
end
section
variable {h : H} {Q : D → H → Prop} {R : Y1}
theorem vo_b4 {l ty cp a b c d : Nat} {p : D → Tr D → Tr D} {k : FR} {t : Tr D} {h : H} {Q : UD} {R : Y1} (hq : vO E T (.ok (.str [a % 256, b % 256, c % 256, d % 256]) (YX h l (.cells ty [.int .u8 (.ofNat (a % 256)), .int .u8 (.ofNat (b % 256)), .int .u8 (.ofNat (c % 256)), .int .u8 (.ofNat (d % 256))]))) p k t Q R) : vO E T (Z0b (.row l 0 4 cp) (YX h l (.cells ty [.int .u8 (.ofNat (a % 256)), .int .u8 (.ofNat (b % 256)), .int .u8 (.ofNat (c % 256)), .int .u8 (.ofNat (d % 256))]))) p k t Q R := by
  rw [Zie (n := 4) Zr rfl (ZR WO (ZR WO (ZR WO (ZR WO bo0))))]; exact hq
theorem vc49b (h159 : T 159 = Zhn) (h111 : T 111 = Zia) (h78 : T 78 = Zw7) (h112 : T 112 = Zmd) (h79 : T 79 = Z1w) (h80 : T 80 = Zx8) (h49 : T 49 = Z2z) (hq : ∀ h', h.next ≤ h'.next → (∀ l, l < h.next → hget h'.mem l = hget h.mem l) → Q (.tup [.str [127, 69, 76, 70], .int .i64 (.ofNat 0)]) h') : VC E T 49 [.int .u64 (.ofNat 2135247942), .int .i64 (.ofNat 4), .v (.bool false)] h Q R := by
  refine Zp h49 ?_
  unfold Zs
  repeat' (with_reducible (first | refine Za ?_ | refine Zb ?_ | refine Zk ?_ | refine Zj ?_ | refine Zd ?_ | refine Z3 ?_ | refine Zc ?_ | refine Zl ?_ | refine Z9 ?_ | refine Z4 ?_ | refine Ze ?_ | refine WV ?_ | (refine Zwo h159 h111 h78 (by unfold Ue; omega) ?_) | (refine Z13 h112 h79 (k := 4) (by unfold Ziu; omega) (by decide) ?_) | simp (maxSteps := 2000000) (disch := first | assumption | omega | (simp only [Z1, Z0, List.length_cons, List.length_nil, List.length_append, List.length_take, List.length_drop]; omega) | fail) only [go_sem, -Int.reduceOfNat, *, Zh6, Zk9, ZZ, Z1l, Zbi, Zk7, repeatL, Zga, List.length_cons, List.length_nil, patch, Nat.zero_add, Nat.add_zero, Nat.mul_one, Nat.one_mul, D.cells, Y8, D.one, List.drop_succ_cons, List.drop_zero, List.cons_append, List.nil_append, List.take_succ_cons, List.take_zero, Nat.reduceAdd, Nat.reduceMul, Nat.reduceSub, Nat.reduceLeDiff, decide_true, Bool.and_self, Bool.and_true, cond_true, Zr, Xh] | ((first | refine Zn ?_ ?_ | refine Zh ?_ ?_ | refine Zm ?_ ?_ | refine Zf ?_ ?_ | refine Zg ?_ ?_ | refine Z5 ?_ ?_) <;> intro _ <;> (try (exfalso; omega))) | (intro h1 g1 g2) | (refine vo_b4 ?_) | assumption | exact trivial | (show _ < _; omega) | (show _ ≤ _; omega) | (show ¬ (_ : Nat) = _; omega) | (show (_ : Nat) ≠ _; omega) | (show (_ : Nat) = _; omega) | (intro _; intros) | (refine ⟨_, by assumption, ?_⟩) | refine And.intro ?_ ?_))
  refine hq _ (by simp only [Z0, Z1]; omega) fun j hj => ?_
  repeat rw [Zv (by omega)]
  rw [ZG (by omega)]
  exact g2 j hj
theorem vc48 (h159 : T 159 = Zhn) (h111 : T 111 = Zia) (h78 : T 78 = Zw7) (h112 : T 112 = Zmd) (h79 : T 79 = Z1w) (h80 : T 80 = Zx8) (h49 : T 49 = Z2z) (h48 : T 48 = q48) {k n : Nat} (hk : Ziu k) (hn : n < 256 ^ k) (hq : ∀ h', h.next ≤ h'.next → (∀ l, l < h.next → hget h'.mem l = hget h.mem l) → Q (.str (Zc2 k n)) h') : VC E T 48 [.int .u64 (.ofNat n), .int .i64 (.ofNat k)] h Q R := by
  refine Zp h48 ?_
  unfold Zs
  rcases hk with rfl | rfl | rfl
  · repeat' (with_reducible (first | refine Za ?_ | refine Zb ?_ | refine Zk ?_ | refine Zj ?_ | refine Zd ?_ | refine Z3 ?_ | refine Zc ?_ | refine Zl ?_ | refine Z9 ?_ | refine Z4 ?_ | refine Ze ?_ | refine vc49l2 h159 h111 h78 h112 h79 h80 h49 hn ?_ | simp (maxSteps := 2000000) (disch := first | assumption | omega | (simp only [Z1, Z0, List.length_cons, List.length_nil, List.length_append, List.length_take, List.length_drop]; omega) | fail) only [go_sem, -Int.reduceOfNat, *] | ((first | refine Zn ?_ ?_ | refine Zh ?_ ?_ | refine Zm ?_ ?_ | refine Zf ?_ ?_ | refine Zg ?_ ?_ | refine Z5 ?_ ?_) <;> intro _ <;> (try (exfalso; omega))) | (intro h1 g1) | assumption | exact trivial | (show _ < _; omega) | (show _ ≤ _; omega) | (show ¬ (_ : Nat) = _; omega) | (show (_ : Nat) ≠ _; omega) | (show (_ : Nat) = _; omega) | (intro _; intros) | (refine ⟨_, by assumption, ?_⟩) | refine And.intro ?_ ?_))
    exact hq _ g1.1 g1.2
  · repeat' (with_reducible (first | refine Za ?_ | refine Zb ?_ | refine Zk ?_ | refine Zj ?_ | refine Zd ?_ | refine Z3 ?_ | refine Zc ?_ | refine Zl ?_ | refine Z9 ?_ | refine Z4 ?_ | refine Ze ?_ | refine vc49l4 h159 h111 h78 h112 h79 h80 h49 hn ?_ | simp (maxSteps := 2000000) (disch := first | assumption | omega | (simp only [Z1, Z0, List.length_cons, List.length_nil, List.length_append, List.length_take, List.length_drop]; omega) | fail) only [go_sem, -Int.reduceOfNat, *] | ((first | refine Zn ?_ ?_ | refine Zh ?_ ?_ | refine Zm ?_ ?_ | refine Zf ?_ ?_ | refine Zg ?_ ?_ | refine Z5 ?_ ?_) <;> intro _ <;> (try (exfalso; omega))) | (intro h1 g1) | assumption | exact trivial | (show _ < _; omega) | (show _ ≤ _; omega) | (show ¬ (_ : Nat) = _; omega) | (show (_ : Nat) ≠ _; omega) | (show (_ : Nat) = _; omega) | (intro _; intros) | (refine ⟨_, by assumption, ?_⟩) | refine And.intro ?_ ?_))
    exact hq _ g1.1 g1.2
  · repeat' (with_reducible (first | refine Za ?_ | refine Zb ?_ | refine Zk ?_ | refine Zj ?_ | refine Zd ?_ | refine Z3 ?_ | refine Zc ?_ | refine Zl ?_ | refine Z9 ?_ | refine Z4 ?_ | refine Ze ?_ | refine vc49l8 h159 h111 h78 h112 h79 h80 h49 hn ?_ | simp (maxSteps := 2000000) (disch := first | assumption | omega | (simp only [Z1, Z0, List.length_cons, List.length_nil, List.length_append, List.length_take, List.length_drop]; omega) | fail) only [go_sem, -Int.reduceOfNat, *] | ((first | refine Zn ?_ ?_ | refine Zh ?_ ?_ | refine Zm ?_ ?_ | refine Zf ?_ ?_ | refine Zg ?_ ?_ | refine Z5 ?_ ?_) <;> intro _ <;> (try (exfalso; omega))) | (intro h1 g1) | assumption | exact trivial | (show _ < _; omega) | (show _ ≤ _; omega) | (show ¬ (_ : Nat) = _; omega) | (show (_ : Nat) ≠ _; omega) | (show (_ : Nat) = _; omega) | (intro _; intros) | (refine ⟨_, by assumption, ?_⟩) | refine And.intro ?_ ?_))
    exact hq _ g1.1 g1.2
end
section
variable {h : H} {Q : D → H → Prop} {R : Y1}
def q21 : Yd := Uz Zs (fun t h => .ok (Gt 4 t) h)
 (Z2 (Z7<|fo (UA 45 (Gt 0)) (St 2)<|fo (ZC (kS [])) (St 4)<|Z8)
 (Z2 (YY<|Zfw 0 [] (ZW 48 [(kD (.int .u64 (.ofNat 0))),(kI 4)]) (St 6)<|Zu (u1 (ZL 0) (Gt 2)) (St 7)<|Xj 2 [0] 1 (Gt 7) (ZO (Gt 7)) (St 8)<|Zu (WT .u64 (Gt 8)) (St 9)<|Zim 4 [] (ZW 48 [(Gt 9),(kI 4)]) (St 10)<|Zu (Zq YJ .add 9 (.tmp 6) (.tmp 10) (Gt 6) (Gt 10)) (St 11)<|Zim 6 [5] (ZW 48 [(kD (.int .u64 (.ofNat 0))),(kI 8)]) (St 12)<|Zu (Zq YJ .add 9 (.tmp 11) (.tmp 12) (Gt 11) (Gt 12)) (St 13)<|Zim 8 [5,7] (ZW 48 [(kD (.int .u64 (.ofNat 0))),(kI 8)]) (St 14)<|Zu (Zq YJ .add 9 (.tmp 13) (.tmp 14) (Gt 13) (Gt 14)) (St 15)<|Zu (ZC (Gt 15)) (St 5)<|YZ)
 (Z2 (YY<|Zu (ZC (Gt 5)) (St 16)<|Zu (ZC (Gt 1)) (St 17)<|Zu (WT .u64 (Gt 17)) (St 18)<|Zfw 3 [0] (ZW 48 [(Gt 18),(kI 8)]) (St 19)<|Zu (u1 (ZL 1) (Gt 2)) (St 20)<|Xj 5 [0,1,2,3] 1 (Gt 20) (ZO (Gt 20)) (St 21)<|Zu (u1 WD (Gt 21)) (St 22)<|Zu (WT .u64 (Gt 22)) (St 23)<|Zim 8 [0] (ZW 48 [(Gt 23),(kI 8)]) (St 24)<|Zu (Zq YJ .add 9 (.tmp 19) (.tmp 24) (Gt 19) (Gt 24)) (St 25)<|Zu (Zq YJ .add 9 (.tmp 16) (.tmp 25) (Gt 16) (Gt 25)) (St 26)<|Zu (ZC (Gt 26)) (St 5)<|YZ)
 (Z2 (Z7<|mM 5 27<|mK 48 [(kD (.int .u64 (.ofNat 0))),(kI 4)] 28<|fo (Zq YJ .add 9 (.tmp 27) (.tmp 28) (Gt 27) (Gt 28)) (St 29)<|mK 48 [(kD (.int .u64 (.ofNat 0))),(kI 4)] 30<|fo (Zq YJ .add 9 (.tmp 29) (.tmp 30) (Gt 29) (Gt 30)) (St 31)<|mK 48 [(kD (.int .u64 (.ofNat 1))),(kI 8)] 32<|fo (Zq YJ .add 9 (.tmp 31) (.tmp 32) (Gt 31) (Gt 32)) (St 33)<|mK 48 [(kD (.int .u64 (.ofNat 0))),(kI 8)] 34<|fo (Zq YJ .add 9 (.tmp 33) (.tmp 34) (Gt 33) (Gt 34)) (St 35)<|mM 35 4<|Z8)
 ZF))))
def q23 : Yd := Uz Zs (fun t h => .ok (Gt 4 t) h)
 (Z2 (Z7<|fo (ZC (kS [])) (St 4)<|Z8)
 (Z2 (Z7<|mK 49 [(kD (.int .u64 (.ofNat 2135247942))),(kI 4),(kD (.v (.bool false)))] 9<|mM 9 8<|mE 0 8 10<|mE 1 8 11<|mM 10 5<|mM 11 6<|Z8)
 (Z2 (Z7<|mM 5 12<|fo (Zq YJ .add 9 (.tmp 12) (.const (.string ⟨#[2,1,1,0]⟩)) (Gt 12) (kS [2,1,1,0])) (St 13)<|mK 50 [(kS [0]),(kI 8)] 14<|fo (Zq YJ .add 9 (.tmp 13) (.tmp 14) (Gt 13) (Gt 14)) (St 15)<|mM 15 7<|Z8)
 (Z2 (Z7<|mM 7 16<|mK 48 [(kD (.int .u64 (.ofNat 1))),(kI 2)] 17<|mK 48 [(kD (.int .u64 (.ofNat 62))),(kI 2)] 18<|fo (Zq YJ .add 9 (.tmp 17) (.tmp 18) (Gt 17) (Gt 18)) (St 19)<|mK 48 [(kD (.int .u64 (.ofNat 1))),(kI 4)] 20<|fo (Zq YJ .add 9 (.tmp 19) (.tmp 20) (Gt 19) (Gt 20)) (St 21)<|mK 48 [(kD (.int .u64 (.ofNat 0))),(kI 8)] 22<|fo (Zq YJ .add 9 (.tmp 21) (.tmp 22) (Gt 21) (Gt 22)) (St 23)<|mK 48 [(kD (.int .u64 (.ofNat 0))),(kI 8)] 24<|fo (Zq YJ .add 9 (.tmp 23) (.tmp 24) (Gt 23) (Gt 24)) (St 25)<|mM 0 26<|fo (WT .u64 (Gt 26)) (St 27)<|mK 48 [(Gt 27),(kI 8)] 28<|fo (Zq YJ .add 9 (.tmp 25) (.tmp 28) (Gt 25) (Gt 28)) (St 29)<|fo (Zq YJ .add 9 (.tmp 16) (.tmp 29) (Gt 16) (Gt 29)) (St 30)<|mM 30 7<|Z8)
 (Z2 (Z7<|mM 7 31<|mK 48 [(kD (.int .u64 (.ofNat 0))),(kI 4)] 32<|mK 48 [(kD (.int .u64 (.ofNat 64))),(kI 2)] 33<|fo (Zq YJ .add 9 (.tmp 32) (.tmp 33) (Gt 32) (Gt 33)) (St 34)<|mK 48 [(kD (.int .u64 (.ofNat 0))),(kI 2)] 35<|fo (Zq YJ .add 9 (.tmp 34) (.tmp 35) (Gt 34) (Gt 35)) (St 36)<|mK 48 [(kD (.int .u64 (.ofNat 0))),(kI 2)] 37<|fo (Zq YJ .add 9 (.tmp 36) (.tmp 37) (Gt 36) (Gt 37)) (St 38)<|mK 48 [(kD (.int .u64 (.ofNat 64))),(kI 2)] 39<|fo (Zq YJ .add 9 (.tmp 38) (.tmp 39) (Gt 38) (Gt 39)) (St 40)<|fo (Zq YJ .add 9 (.tmp 31) (.tmp 40) (Gt 31) (Gt 40)) (St 41)<|mM 41 7<|Z8)
 (Z2 (Z7<|mM 7 42<|mM 1 43<|fo (WT .u64 (Gt 43)) (St 44)<|mK 48 [(Gt 44),(kI 2)] 45<|fo (Zq YJ .add 9 (.tmp 42) (.tmp 45) (Gt 42) (Gt 45)) (St 46)<|mK 48 [(kD (.int .u64 (.ofNat 0))),(kI 2)] 47<|fo (Zq YJ .add 9 (.tmp 46) (.tmp 47) (Gt 46) (Gt 47)) (St 48)<|mM 48 4<|Z8)
 ZF))))))
theorem vc50z (h50 : T 50 = Xb VE) (hq : Q (.str [0, 0, 0, 0, 0, 0, 0, 0]) h) : VC E T 50 [.str [0], .int .i64 (.ofNat 8)] h Q R := Zcj h50 hq
theorem Zld {k n : Nat} : (Zc2 k n).length = k := by simp [Zc2]
def Zfh (kd n i : Nat) : List Nat := Zc2 4 0 ++ Zc2 4 kd ++ Zc2 8 0 ++ Zc2 8 0 ++ (Zc2 8 i ++ Zc2 8 n) ++ Zc2 4 0 ++ Zc2 4 0 ++ Zc2 8 1 ++ Zc2 8 0
def Zbp (tb n : Nat) : List Nat := [127, 69, 76, 70] ++ [2, 1, 1, 0] ++ [0, 0, 0, 0, 0, 0, 0, 0] ++ (Zc2 2 1 ++ Zc2 2 62 ++ Zc2 4 1 ++ Zc2 8 0 ++ Zc2 8 0 ++ Zc2 8 tb) ++ (Zc2 4 0 ++ Zc2 2 64 ++ Zc2 2 0 ++ Zc2 2 0 ++ Zc2 2 64) ++ Zc2 2 n ++ Zc2 2 0
theorem vc21 (h159 : T 159 = Zhn) (h111 : T 111 = Zia) (h78 : T 78 = Zw7) (h112 : T 112 = Zmd) (h79 : T 79 = Z1w) (h80 : T 80 = Zx8) (h49 : T 49 = Z2z) (h48 : T 48 = q48) (h21 : T 21 = q21) {kd i : Nat} {data : List Nat} (hkd : kd < 4294967296) (hi : i < 4294967296) (hd : data.length < 4294967296) (hq : ∀ h', h.next ≤ h'.next → (∀ l, l < h.next → hget h'.mem l = hget h.mem l) → Q (.str (Zfh kd data.length i)) h') : VC E T 21 [.agg [.int .u32 (.ofNat kd), .str data], .int .i64 (.ofNat i)] h Q R := by
  simp only [Zfh, List.append_assoc, List.cons_append, List.nil_append] at hq
  refine Zp h21 ?_
  unfold Zs
  repeat' (with_reducible (first | refine Za ?_ | refine Zb ?_ | refine Zk ?_ | refine Zj ?_ | refine Zd ?_ | refine Z3 ?_ | refine Zc ?_ | refine Zl ?_ | refine Z9 ?_ | refine Z4 ?_ | refine Ze ?_ | (refine (vc48 h159 h111 h78 h112 h79 h80 h49 h48 (by unfold Ziu; omega) (by simp only [Nat.reducePow]; omega) ?_)) | simp (maxSteps := 2000000)  (disch := first | assumption | omega | (simp only [Z1, Z0, Zld, List.length_append, List.length_cons, List.length_nil]; omega) | fail) only [go_sem, -Int.reduceOfNat, *, XD, X4] | ((first | refine Zn ?_ ?_ | refine Zh ?_ ?_ | refine Zm ?_ ?_ | refine Zf ?_ ?_ | refine Zg ?_ ?_ | refine Z5 ?_ ?_) <;> intro _ <;> (try (exfalso; omega))) | (intro h1 g1 g2) | (show Q _ _; refine hq _ ?_ ?_) | assumption | exact trivial | (show _ < _; omega) | (show _ ≤ _; omega) | (show ¬ (_ : Nat) = _; omega) | (show (_ : Nat) ≠ _; omega) | (show (_ : Nat) = _; omega) | (intro _; intros) | (refine ⟨_, by assumption, ?_⟩) | refine And.intro ?_ ?_))
theorem vc23 (h159 : T 159 = Zhn) (h111 : T 111 = Zia) (h78 : T 78 = Zw7) (h112 : T 112 = Zmd) (h79 : T 79 = Z1w) (h80 : T 80 = Zx8) (h49 : T 49 = Z2z) (h48 : T 48 = q48) (h50 : T 50 = Xb VE) (h23 : T 23 = q23) {tb n : Nat} (ht : tb < 4294967296) (hn : n < 65536) (hq : ∀ h', h.next ≤ h'.next → (∀ l, l < h.next → hget h'.mem l = hget h.mem l) → Q (.str (Zbp tb n)) h') : VC E T 23 [.int .i64 (.ofNat tb), .int .i64 (.ofNat n)] h Q R := by
  simp only [Zbp, List.append_assoc, List.cons_append, List.nil_append] at hq
  refine Zp h23 ?_
  unfold Zs
  repeat' (with_reducible (first | refine Za ?_ | refine Zb ?_ | refine Zk ?_ | refine Zj ?_ | refine Zd ?_ | refine Z3 ?_ | refine Zc ?_ | refine Zl ?_ | refine Z9 ?_ | refine Z4 ?_ | refine Ze ?_ | refine vc49b h159 h111 h78 h112 h79 h80 h49 ?_ | refine vc50z h50 ?_ | (refine (vc48 h159 h111 h78 h112 h79 h80 h49 h48 (by unfold Ziu; omega) (by simp only [Nat.reducePow]; omega) ?_)) | simp (maxSteps := 2000000)  (disch := first | assumption | omega | (simp only [Z1, Z0, Zld, List.length_append, List.length_cons, List.length_nil]; omega) | fail) only [go_sem, -Int.reduceOfNat, *, XD, X4] | ((first | refine Zn ?_ ?_ | refine Zh ?_ ?_ | refine Zm ?_ ?_ | refine Zf ?_ ?_ | refine Zg ?_ ?_ | refine Z5 ?_ ?_) <;> intro _ <;> (try (exfalso; omega))) | (intro h1 g1 g2) | (show Q _ _; refine hq _ ?_ ?_) | assumption | exact trivial | (show _ < _; omega) | (show _ ≤ _; omega) | (show ¬ (_ : Nat) = _; omega) | (show (_ : Nat) ≠ _; omega) | (show (_ : Nat) = _; omega) | (intro _; intros) | (refine ⟨_, by assumption, ?_⟩) | refine And.intro ?_ ?_))
end
end Run
end
end Go.Abs
