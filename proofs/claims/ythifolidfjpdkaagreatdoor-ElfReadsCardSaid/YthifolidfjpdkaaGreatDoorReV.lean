/- The whole of an input: its code. -/
import Derived.Test.YthifolidfjpdkaaGreatDoorReR
import Derived.Test.YthifolidfjpdkaaGreatDoorNeW
import Derived.Test.YthifolidfjpdkaaGreatDoorNdTree
set_option linter.unusedVariables false
set_option linter.unusedSimpArgs false
namespace Go.Abs
noncomputable section
namespace Run
variable {E : Env} {T : Nat → Yd}
set_option maxHeartbeats 4000000
set_option maxRecDepth 100000
attribute [local go_sem] Zdv UJ Zdx UH UQ UG UM Zdu UL UK Zdt Wa US W7 UN V1 W9 YL V3 Zbi UU V0 UO UR UT V4 X8 V7 UP W8 W6 UI V5 V6 Zdz Zd0 UW Zaf Zab Wc Wb YM Zaa UZ Zdy Va Zai Zac Zag Vd Zad UX Zae UV V9 UY Vb Zah V8 Vc Zd1 Zak Zd5 Zaj Zd2 Zi0 Zi1 Ziy Ziz Zd3 Zd4 Za1 Za0 Za2 Za7 Za6 Za8 Zek Zej VA VB Vz Zd9 Vx Vy Vw Vt Zaw Wk Vq Vr Wm Wn Zaz Zay Zax Wj Xo W1 Zao Zeb Zeg Zpv Xr Xq Vo Zau Wo Vp Yu Y5 Xt YS WK patch YQ YR Xn Xm Wy Wx X1 X2 W5 VG Wu Xu YV Xp Wr XP Xs YO Yf YT mem_cons Zei Zea Xk Option.map_some Option.map_none Vv Wp Ws Wq Zav Vu Wl Vs YP X4 XA Xv XB Wz Xw Xz Xx YW Xy Vl Wh Vn Vi Zas Vj Vm Vk Wi Wg YD VT WH Zfx Zcy Zc3 Zb3 Zeo Zsi Xg XU VH WQ YN Xl YU Yv Yn X7 ZZ X5 List.drop_succ_cons List.drop_zero List.drop_nil List.take_succ_cons List.take_zero List.take_nil List.length_cons List.length_nil List.length_append List.cons_append List.nil_append Nat.reduceAdd Nat.reduceEqDiff Nat.reduceLeDiff Nat.reduceLT List.cons.injEq reduceCtorEq eq_self not_true_eq_false not_false_eq_true and_false false_and true_or or_true decide_true decide_false Bool.and_self Bool.and_true Bool.true_and Bool.true_or Bool.or_true Bool.false_or Bool.or_false Bool.false_and Bool.and_false Bool.not_true Bool.not_false cond_true cond_false true_and and_true Zex Zef Zen reduceIte Nat.add_zero Nat.zero_add Nat.add_sub_cancel Nat.reduceMul Nat.reduceSub Nat.reduceBEq List.map_cons List.map_nil Z1 Z0 Yw ZG Zr Zv Wd Zd6 XQ Yo Y0 Wf We XH XG and_assoc exists_and_left D.str.injEq Nat.lt_irrefl Nat.not_lt_zero true_implies false_implies implies_true forall_const ge_iff_le gt_iff_lt Nat.sub_zero List.append_assoc Option.some.injEq AObj.cells.injEq D.int.injEq D.ptr.injEq Int.ofNat.injEq exists_eq_left' D.v.injEq Value.bool.injEq D.agg.injEq Nat.mul_one
section
variable {h : H} {Q : D → H → Prop} {R : Y1}
section
variable {t : Tr D} {h : H}
def oNTT (o : Option (List D)) (d e : D) (h : H) : O D :=
  match o with
  | some cs => .ok (.tup [.agg cs, d, e]) h
  | none => .fail "results"
def oN11 (o : Option (List D)) (p q : Option (List D)) (h : H) : O D :=
  match o, p, q with
  | some cs, some [d], some [e] => .ok (.tup [.agg cs, d, e]) h
  | _, _, _ => .fail "results"
theorem Zoj {cs : List D} {d e : D} : oNTT (some cs) d e h = .ok (.tup [.agg cs, d, e]) h := rfl
theorem Zjq {cs : List D} {d e : D} : oN11 (some cs) (some [d]) (some [e]) h = .ok (.tup [.agg cs, d, e]) h := rfl
theorem Zs3 {n s m l : Nat} {c : CC} : VU ⟨[.cN n s, .t l, .t m], c⟩ (act t) h = oNTT (Zi h (Gt n t) s) (Gt l t) (Gt m t) h := by
  simp only [Zcg, Uv, YK, Gt, geq]
  cases Zi h ((act t).eval (.t n)) s <;> rfl
end
abbrev Z1i : CC := (.ops [⟨some 2, none, .alloc 39 [(.int .i64 (.ofNat 0)), (.int .u64 (.ofNat 0)), (.str []), (.v (.slice none 0 0))]⟩, ⟨some 3, none, .alloc 3 [(.int .i64 (.ofNat 0))]⟩, ⟨some 4, none, .alloc 26 [(.int .i64 (.ofNat 0))]⟩])
abbrev f26_0 : FC := (Z7 <| fo (ZN 39 [(.int .i64 (.ofNat 0)), (.int .u64 (.ofNat 0)), (.str []), (.v (.slice none 0 0))]) (St 2) <| fo (ZN 3 [(.int .i64 (.ofNat 0))]) (St 3) <| fo (ZN 26 [(.int .i64 (.ofNat 0))]) (St 4) <| Z8)
abbrev Z1h : CC := (.ops [⟨some 5, none, .mkf (.func 54) [] [(.t 2), (.t 3), (.t 4)]⟩, ⟨none, none, .dfr (.t 5)⟩])
abbrev c26_2 : CC := (.draw [[], [0], [0], [0], [0], [0], [0], [0], [0, 1, 2, 3, 4, 5, 6, 7], [0, 1, 2, 3, 4, 5, 6, 7], [0, 1, 2, 3, 4, 5, 6, 7], [0, 1, 2, 3, 4, 5, 6, 7], [0, 1, 2, 3, 4, 5, 6, 7], [0], [0], [], []] [⟨some 6, none, .mv (.t 0)⟩, ⟨some 7, none, .mv (.t 0)⟩, ⟨some 8, none, .nilCheck (.t 7)⟩, ⟨some 9, none, .fa 0 (.t 8)⟩, ⟨some 10, none, .ld1 (.t 9)⟩, ⟨some 11, none, .nilCheck (.t 10)⟩, ⟨some 12, none, .fa 1 (.t 11)⟩, ⟨some 13, none, .ld1 (.t 12)⟩, ⟨some 14, none, .mv (.t 0)⟩, ⟨some 15, none, .nilCheck (.t 14)⟩, ⟨some 16, none, .fa 0 (.t 15)⟩, ⟨some 17, none, .ld1 (.t 16)⟩, ⟨some 18, none, .call (.d (.v (.func (.func 56) #[] #[]))) [(.t 17)]⟩, ⟨some 19, none, .ixs 3 (.t 13) (.t 18)⟩, ⟨some 20, none, .ldN 3 (.t 19)⟩, ⟨some 21, none, .call (.d (.v (.func (.func 55) #[] #[]))) [(.t 6), (.t 20), (.d (.v (.slice none 0 0)))]⟩, ⟨none, none, .st 4 (.t 2) (.t 21)⟩])
abbrev f26_2 : FC := (YY <| Zu (ZC (Gt 0)) (St 6) <| Zu (ZC (Gt 0)) (St 7) <| Zu (u1 Zo (Gt 7)) (St 8) <| Zu (u1 (ZL 0) (Gt 8)) (St 9) <| Xj 4 [0] 1 (Gt 9) (ZO (Gt 9)) (St 10) <| Zu (u1 Zo (Gt 10)) (St 11) <| Zu (u1 (ZL 1) (Gt 11)) (St 12) <| Xj 7 [0] 1 (Gt 12) (ZO (Gt 12)) (St 13) <| Zu (ZC (Gt 0)) (St 14) <| Zu (u1 Zo (Gt 14)) (St 15) <| Zu (u1 (ZL 0) (Gt 15)) (St 16) <| Xj 11 [0, 1, 2, 3, 4, 5, 6, 7] 1 (Gt 16) (ZO (Gt 16)) (St 17) <| Zim 12 [0, 1, 2, 3, 4, 5, 6, 7] (ZW 56 [(Gt 17)]) (St 18) <| Zu (u2 (Ym 3) (Gt 13) (Gt 18)) (St 19) <| Xj 14 [0] 3 (Gt 19) (Yy 3 (Gt 19)) (St 20) <| Zim 15 [] (ZW 55 [(Gt 6), (Gt 20), (kD (.v (.slice none 0 0)))]) (St 21) <| Zfw 16 [] (ZV 4 (Gt 2) (Gt 21)) p0 <| YZ)
abbrev c26_3 : CC := (.seq (.draw [[], [], [], [], [0, 1, 2, 3], [0, 1, 2, 3], [0, 1, 2, 3], [0, 1, 2, 3], [0, 1, 2, 3], []] [⟨some 22, none, .mv (.t 0)⟩, ⟨some 23, none, .nilCheck (.t 22)⟩, ⟨some 24, none, .fa 2 (.t 23)⟩, ⟨some 25, none, .ld1 (.t 24)⟩, ⟨some 26, none, .mv (.t 0)⟩, ⟨some 27, none, .nilCheck (.t 26)⟩, ⟨some 28, none, .fa 1 (.t 27)⟩, ⟨some 29, none, .ld1 (.t 28)⟩, ⟨some 30, none, .lens (.t 29)⟩, ⟨some 31, none, .bin .neq 3 (.tmp 25) (.tmp 30) (.t 25) (.t 30)⟩]) (.cond (.t 31) (.ops [⟨some 32, none, .mv (.t 0)⟩, ⟨some 33, none, .call (.d (.v (.func (.func 57) #[] #[]))) [(.t 32), (.d (.int .i64 (.ofNat 21)))]⟩]) .skip))
abbrev f26_3 : FC := (Z2 (YY <| Zu (ZC (Gt 0)) (St 22) <| Zu (u1 Zo (Gt 22)) (St 23) <| Zu (u1 (ZL 2) (Gt 23)) (St 24) <| Xj 3 [] 1 (Gt 24) (ZO (Gt 24)) (St 25) <| Zu (ZC (Gt 0)) (St 26) <| Zu (u1 Zo (Gt 26)) (St 27) <| Zu (u1 (ZL 1) (Gt 27)) (St 28) <| Xj 7 [0, 1, 2, 3] 1 (Gt 28) (ZO (Gt 28)) (St 29) <| Zu (u1 WD (Gt 29)) (St 30) <| Zu (Zq VT .neq 3 (.tmp 25) (.tmp 30) (Gt 25) (Gt 30)) (St 31) <| YZ)
 (Zt (Gt 31) (Z7<|mM 0 32<|mK 57 [(Gt 32),(kI 21)] 33<|Z8) ZJ))
abbrev c26_4 : CC := (.ops [⟨some 34, none, .ldN 4 (.t 2)⟩, ⟨none, none, .st 4 (.t 2) (.t 34)⟩, ⟨none, none, .st 1 (.t 3) (.d (.int .i64 (.ofNat 0)))⟩, ⟨none, none, .st 1 (.t 4) (.d (.int .i64 (.ofNat 0)))⟩])
abbrev f26_4 : FC := (Z7 <| fo (Yy 4 (Gt 2)) (St 34) <| fo (ZV 4 (Gt 2) (Gt 34)) p0 <| mS 3 (kI 0) <| mS 4 (kI 0) <| Z8)
abbrev c26_5 : CC := .ret
abbrev f26_5 : FC := ZF
abbrev cWB : CC := .seq c26_2 (.seq c26_3 (.seq c26_4 c26_5))
abbrev fWB : FC := Z2 f26_2 (Z2 f26_3 (Z2 f26_4 f26_5))
def nW : CFn := ⟨[.cN 2 4, .c1 3, .c1 4], .seq Z1i (.seq Z1h cWB)⟩
def cD : CC := (.block 0 (.seq (.ops [⟨some 8, none, .bin .eql 20 (.tmp 6) (.const .nilIface) (.t 6) (.d (.v .nilIface))⟩]) (.cond (.t 8) (.ops [⟨some 3, none, .mv (.t 6)⟩]) (.seq (.ops [⟨some 9, none, .tas 143 (.agg [(.int .i64 (.ofNat 0)), (.int .i64 (.ofNat 0))]) (.t 6) true⟩, ⟨some 10, none, .ext 1 (.t 9)⟩, ⟨some 11, none, .ext 0 (.t 9)⟩]) (.cond (.t 10) (.seq (.ops [⟨some 4, none, .alloc 143 [(.int .i64 (.ofNat 0)), (.int .i64 (.ofNat 0))]⟩, ⟨none, none, .st 2 (.t 4) (.t 11)⟩]) (.draw [[], [0], [0], [0, 1, 2], [0, 1, 2], [1, 2, 3, 4], [3, 4], []] [⟨some 12, none, .build [(.int .i64 (.ofNat 0)), (.int .u64 (.ofNat 0)), (.str []), (.v (.slice none 0 0))] []⟩, ⟨some 13, none, .fa 0 (.t 4)⟩, ⟨some 14, none, .ld1 (.t 13)⟩, ⟨some 15, none, .fa 1 (.t 4)⟩, ⟨some 16, none, .ld1 (.t 15)⟩, ⟨none, none, .st 4 (.t 0) (.t 12)⟩, ⟨none, none, .st 1 (.t 1) (.t 14)⟩, ⟨none, none, .st 1 (.t 2) (.t 16)⟩])) (.seq (.ops [⟨some 5, none, .mv (.t 6)⟩]) (.ops [⟨some 7, none, .mv (.t 5)⟩, ⟨none, none, .panic (.t 7)⟩])))))))
abbrev fD : FC := (ZM 0 (Z2 (Z7 <| fo (Zq YD .eql 20 (.tmp 6) (.const .nilIface) (Gt 6) (kD (.v .nilIface))) (St 8) <| Z8)
 (Zt (Gt 8) (Z7<|fo (ZC (Gt 6)) (St 3)<|Z8) (Z2 (Z7<|fo (u1 (fun x => Zc7 143 (.agg [(.int .i64 (.ofNat 0)),(.int .i64 (.ofNat 0))]) x true) (Gt 6)) (St 9)<|fo (u1 (Zc9 1) (Gt 9)) (St 10)<|fo (u1 (Zc9 0) (Gt 9)) (St 11)<|Z8)
 (Zt (Gt 10) (Z2 (Z7<|fo (ZN 143 [(.int .i64 (.ofNat 0)),(.int .i64 (.ofNat 0))]) (St 4)<|fo (ZV 2 (Gt 4) (Gt 11)) p0<|Z8)
 (YY<|Zu (YA [(.int .i64 (.ofNat 0)),(.int .u64 (.ofNat 0)),(.str []),(.v (.slice none 0 0))] []) (St 12)<|Zu (u1 (ZL 0) (Gt 4)) (St 13)<|Xj 2 [0] 1 (Gt 13) (ZO (Gt 13)) (St 14)<|Zu (u1 (ZL 1) (Gt 4)) (St 15)<|Xj 4 [0,1,2] 1 (Gt 15) (ZO (Gt 15)) (St 16)<|Zfw 5 [1,2,3,4] (ZV 4 (Gt 0) (Gt 12)) p0<|Zfw 6 [3,4] (ZV 1 (Gt 1) (Gt 14)) p0<|Zfw 7 [] (ZV 1 (Gt 2) (Gt 16)) p0<|YZ)) (Z2 (Z7<|fo (ZC (Gt 6)) (St 5)<|Z8)
 (Z7<|fo (ZC (Gt 5)) (St 7)<|fo (u1 VW (Gt 7)) p0<|Z8)))))))
theorem eW0 : XR Z1i = f26_0 := rfl
theorem eWB : XR cWB = fWB := rfl
theorem eD : XR cD = fD := rfl
theorem Z1r {i : Nat} {d : D} {t : Tr D} : t.set i (some d) = St i d t := (Zog ..).symm
theorem Zuq {t : Tr D} {h : H} : VU nW (act t) h = oN11 (Zi h (Gt 2 t) 4) (Zi h (Gt 3 t) 1) (Zi h (Gt 4 t) 1) h := by
  simp only [nW, Zcg, Uv, YK, Gt, geq]
  cases Zi h ((act t).eval (.t 2)) 4 with
  | none => cases Zi h ((act t).eval (.t 3)) 1 with
    | none => rfl
    | some l => cases l with
      | nil => rfl
      | cons a l => cases l <;> (cases Zi h ((act t).eval (.t 4)) 1 with
        | none => rfl
        | some m => cases m with
          | nil => rfl
          | cons b m => cases m <;> rfl)
  | some cs => cases Zi h ((act t).eval (.t 3)) 1 with
    | none => rfl
    | some l => cases l with
      | nil => rfl
      | cons a l => cases l <;> (cases Zi h ((act t).eval (.t 4)) 1 with
        | none => rfl
        | some m => cases m with
          | nil => rfl
          | cons b m => cases m <;> rfl)
end
section
variable {h : H} {Q : D → H → Prop} {R : Y1}
def q9 : Yd := Uz Zs (fun t h => VU ⟨[.cN 4 4, .t 5, .t 6], .skip⟩ (act t) h)
 (Z2 (Z7<|fo (ZN 39 [(.int .i64 (.ofNat 0)),(.int .u64 (.ofNat 0)),(.str []),(.v (.slice none 0 0))]) (St 4)<|fo (ZC (kI 0)) (St 5)<|fo (ZC (kI 0)) (St 6)<|Z8)
 (Z2 (Z2 (Z7<|mM 0 10<|mK 25 [(Gt 10)] 11<|mM 11 9<|mE 0 9 12<|mE 1 9 13<|mM 12 7<|mM 13 8<|Z8)
 (Z2 (Z7<|mM 8 14<|fo (mR 26 14 0) (St 15)<|Z8)
 (Zt (Gt 15) (Z2 (Z7<|fo (YA [(.int .i64 (.ofNat 0)),(.int .u64 (.ofNat 0)),(.str []),(.v (.slice none 0 0))] []) (St 16)<|mM 8 17<|fo (ZV 4 (Gt 4) (Gt 16)) p0<|fo (ZC (kI 0)) (St 5)<|mM 17 6<|Z8)
 ZF) ZJ)))
 (Z2 (Z2 (Z7<|mM 1 18<|fo (u1 WD (Gt 18)) (St 19)<|fo (Zq Zcy .gtr 3 (.tmp 19) (.const (.int .i64 (.ofNat 1048576))) (Gt 19) (kI 1048576)) (St 20)<|Z8)
 (Zt (Gt 20) (Z2 (Z7<|fo (YA [(.int .i64 (.ofNat 0)),(.int .u64 (.ofNat 0)),(.str []),(.v (.slice none 0 0))] []) (St 21)<|fo (ZV 4 (Gt 4) (Gt 21)) p0<|fo (ZC (kI 0)) (St 5)<|fo (ZC (kI 7)) (St 6)<|Z8)
 ZF) ZJ))
 (Z2 (Z7<|mM 0 22<|mM 1 23<|mM 1 24<|fo (u1 WD (Gt 24)) (St 25)<|fo (YA [(.v (.pointer none)),(.str []),(.int .i64 (.ofNat 0)),(.int .i64 (.ofNat 0)),(.int .i64 (.ofNat 0))] [(0,1,(Gt 22)),(1,1,(Gt 23)),(3,1,(Gt 25))]) (St 26)<|fo (UA 94 (Gt 26)) (St 27)<|mK 26 [(Gt 27)] 28<|mE 0 28 29<|mE 1 28 30<|mE 2 28 31<|fo (ZV 4 (Gt 4) (Gt 29)) p0<|mM 30 5<|mM 31 6<|Z8)
 ZF))))
structure RW (E : Env) (T : Nat → Yd) (F : XF) (ds de dt : D) (root : Nat) : Prop where
  h26 : T 26 = Zdb nW
  h9 : T 9 = q9
  h56 : T 56 = Xb (Y2 [Y7 ds de dt] (.int .i64 (.ofNat root)))
  h25 : T 25 = Xb (Y2 [Y7 ds de dt] (.tup [.str [], .int .i64 (.ofNat 0)]))
  same : D.same (Y7 ds de dt) (Y7 ds de dt) = true
  sameS : D.same ds ds = true
  dD : E.dfrs 54 = some (some 6, cD)
  i1 : ∀ (a b : Nat) (h : H), Zfu E YD .eql 20 (.tmp 6) (.const .nilIface) (.iface 143 (.agg [.int .i64 (.ofNat a), .int .i64 (.ofNat b)])) (.v .nilIface) h = .ok (.v (.bool false)) h
  j1 : ∀ (h : H), Zfu E YD .eql 20 (.tmp 6) (.const .nilIface) (.v .nilIface) (.v .nilIface) h = .ok (.v (.bool true)) h
section
variable {F : XF} {crc : Zkz} {ds de dt : D} {inp : List Nat} {pr ps p e0 n : Nat} {env : Ev} {fp : D} {kind : Nat → Ev → Nat → Nat → Nat → RO V}
theorem noP (h56 : T 56 = Xb (Y2 [Y7 ds de dt] (.int .i64 (.ofNat n)))) : ∀ m, NoP (fun k => Nat.beq k 56) (ZY E T m)
  | 0, k, args, h, d, h', hk, he => by cases he
  | m + 1, k, args, h, d, h', hk, he => by
    have := Nat.eq_of_beq_eq_true hk
    subst this
    have e : ZY E T (m + 1) 56 args h = Xb (Y2 [Y7 ds de dt] (.int .i64 (.ofNat n))) E m (ZY E T m) args h := by
      show T 56 E m (ZY E T m) args h = _
      rw [h56]
    rw [e] at he
    simp only [Xb, Y2] at he
    cases hs : Y6 args [Y7 ds de dt] <;> rw [hs] at he <;> cases he
theorem Zri {k : Nat} {r : D} (hk : T k = Xb (Y2 [Y7 ds de dt] r)) (hs : D.same (Y7 ds de dt) (Y7 ds de dt) = true) (hq : Q r h) : VC E T k [Y7 ds de dt] h Q R := Zcj hk (by
  show VO Q R (bif Y6 [Y7 ds de dt] [Y7 ds de dt] then .ok r h else .fail "another call")
  rw [Y0, hs, Yo]
  exact hq)
theorem Zyo {root : Nat} (P : RW E T F ds de dt root) {t : Tr D} {h : H} {Q : D → H → Prop} {R : Y1} (hx : VP E T fWB (St 5 (.func (.func 54) [] [Gt 2 t, Gt 3 t, Gt 4 t]) t) h (fun e t' h' => (∀ i, e ≠ .exit i) ∧ DF E T nW (some 6) cD [Gt 2 t, Gt 3 t, Gt 4 t] none t h' Q) (fun d h' => DF E T nW (some 6) cD [Gt 2 t, Gt 3 t, Gt 4 t] (some d) t h' Q)) : SL E T nW (.seq Z1h cWB) (act t) h Q R := by
  refine sl_dfr (noP P.h56) (xs := []) (ys := [Gt 2 t, Gt 3 t, Gt 4 t]) (by decide) (by decide) (by decide) eWB P.dD rfl (by simp only [AAct.evals, Gt, geq]) ?_
  rw [Z1r]
  exact hx
theorem df_D {a b c : D} {r : Option D} {t : Tr D} {h : H} {Q : D → H → Prop} (hx : VP E T fD (St 6 (Zjb r) (St 2 c (St 1 b (St 0 a .nil)))) h (fun e _ h' => (∀ i, e ≠ .exit i) ∧ sC (VU nW (act t) h') Q) (fun _ _ => False)) : DF E T nW (some 6) cD [a, b, c] r t h Q := by
  unfold DF
  rw [eD, show ((start [a, b, c] none).put (some 6) (Zjb r)).tmps = St 6 (Zjb r) (St 2 c (St 1 b (St 0 a .nil))) by
    simp only [← Z1r]; rfl]
  exact hx
theorem Zm7 : (∀ i, AExit.normal ≠ .exit i) ↔ True := ⟨fun _ => trivial, fun _ i h => by cases h⟩
theorem Zm6 : (∀ i, AExit.ret ≠ .exit i) ↔ True := ⟨fun _ => trivial, fun _ i h => by cases h⟩
theorem Zi9 {d : D} : Zjb (some d) = d := rfl
theorem Zja : Zjb none = .v .nilIface := rfl
def RQ (x : RO V) (pr : Nat) (h : H) (Q : D → H → Prop) : Prop :=
  match x with
  | .ok v _ _ => ∀ h' a b c d, Rep v [a, b, c, d] → h.next ≤ h'.next → (∀ x, x < h.next → x ≠ pr → hget h'.mem x = hget h.mem x) → Q (.tup [.agg [a, b, c, d], .int .i64 (.ofNat 0), .int .i64 (.ofNat 0)]) h'
  | .err p e => ∀ h', h.next ≤ h'.next → (∀ x, x < h.next → x ≠ pr → hget h'.mem x = hget h.mem x) → Q (.tup [.agg [.int .i64 (.ofNat 0), .int .u64 (.ofNat 0), .str [], .v (.slice none 0 0)], .int .i64 (.ofNat p), .int .i64 (.ofNat e)]) h'
  | .oof => False
theorem vc26 {root : Nat} (P : RW E T F ds de dt root) (hT : RT E T F ds de dt) (h2 : RT2 E T) (hF : FOk F) (hb : ∀ b ∈ inp, b < 256) (hL : inp.length ≤ 1000000) {f : Nat} (hr : hget h.mem pr = some (RC (Y7 ds de dt) inp 0 inp.length 0)) (np : pr < h.next) (hq : RQ (Zl0 F crc inp f root) pr h Q) : VC E T 26 [.ptr pr 0] h Q R := by
  unfold Zl0 at hq
  cases hx : F.ss[root]? with
  | none => rw [hx] at hq; exact hq.elim
  | some s =>
  rw [hx] at hq
  simp only [] at hq
  obtain ⟨c, r, hc, hz, hix⟩ := Zbj hT.rowS (by decide) hx
  obtain ⟨di, rfl, hk⟩ := hc
  have hdi := Zy hk
  have hdo := ZP hk
  have hsc := Zy hT.rowS
  have hso := ZP hT.rowS
  have hRO : ∀ {h : H} {Q : D → H → Prop} {R : Y1}, Q (.int .i64 (.ofNat root)) h → VC E T 56 [Y7 ds de dt] h Q R := fun a => Zri P.h56 P.same a
  have hFL : ∀ {p n : Nat} {h : H} {Q : D → H → Prop} {R : Y1}, hget h.mem pr = some (RC (Y7 ds de dt) inp p inp.length n) → R (Zfv p 21) h → VC E T 57 [.ptr pr 0, .int .i64 (.ofNat 21)] h Q R := fun a1 a2 => Zpb hT.h57 a1 a2
  have hRC : ∀ {h : H} {Q : D → H → Prop} {R : Y1}, hget h.mem pr = some (RC (Y7 ds de dt) inp 0 inp.length 0) → pr < h.next → KQ (XZ F crc inp (Yi F crc inp f) s 0 inp.length 0) (Y7 ds de dt) inp pr inp.length h Q R → VC E T 55 [.ptr pr 0, .agg [.str s.nm, .v (.slice none 0 0), di], .v (.slice none 0 0)] h Q R := fun a1 a2 a3 => vcRec hT h2 (vcKind hT h2 hF hb hL f) (Zmr f) hF hL (List.mem_of_getElem? hx) hk a1 a2 (Nat.zero_le _) (Nat.le_refl _) (by omega) a3
  have hi1 := P.i1
  have hsd := P.sameS
  have hsf := P.same
  have hj1 := P.j1
  clear hT h2 hF hb hk hz hx
  generalize XZ F crc inp (Yi F crc inp f) s 0 inp.length 0 = X at hq hRC
  refine Z11 P.h26 ?_
  show SL E T nW (.seq Z1i (.seq Z1h cWB)) (act (Zcw 0 [St 0] [.ptr pr 0] .nil)) h Q R
  cases X with
  | oof => exact hq.elim
  | err p' e' =>
    simp only [RO.bind, RQ] at hq
    repeat' (with_reducible (first | refine Za ?_ | refine Zb ?_ | refine Zk ?_ | refine Zj ?_ | refine Zd ?_ | refine Z3 ?_ | refine Zc ?_ | refine Zl ?_ | refine Z9 ?_ | refine Z4 ?_ | refine Ze ?_ | refine Zts eW0 ?_ | refine Zyo P ?_ | refine df_D ?_ | refine hRO ?_ | refine hRC ?_ ?_ ?_ | simp (maxSteps := 2000000) (disch := first | assumption | omega | (simp only [Z1, Z0, List.length_cons, List.length_nil, List.length_append, List.length_take, List.length_drop]; omega) | fail) only [go_sem, -Int.reduceOfNat, *, Yx, ZU, Zm7, Zm6, Zi9, Zja, Ztk, Zmi, Zuq, Zjq, hi1, hj1] | ((first | refine Zn ?_ ?_ | refine Zh ?_ ?_ | refine Zm ?_ ?_ | refine Zf ?_ ?_ | refine Zg ?_ ?_ | refine Z5 ?_ ?_) <;> intro _ <;> (try (exfalso; omega))) | (show Q _ _; refine hq _ ?_ ?_) | (refine hq _ ?_ ?_) | (rintro h1 n1 f1) | assumption | exact trivial | (show _ < _; omega) | (show _ ≤ _; omega) | (show ¬ (_ : Nat) = _; omega) | (show (_ : Nat) ≠ _; omega) | (show (_ : Nat) = _; omega) | (intro _; intros) | (refine ⟨_, by assumption, ?_⟩) | refine And.intro ?_ ?_))
  | ok v p' n' =>
    simp only [RO.bind] at hq
    by_cases hp : p' = inp.length
    · rw [if_pos hp] at hq
      simp only [RQ] at hq
      repeat' (with_reducible (first | refine Za ?_ | refine Zb ?_ | refine Zk ?_ | refine Zj ?_ | refine Zd ?_ | refine Z3 ?_ | refine Zc ?_ | refine Zl ?_ | refine Z9 ?_ | refine Z4 ?_ | refine Ze ?_ | refine Zts eW0 ?_ | refine Zyo P ?_ | refine df_D ?_ | refine hRO ?_ | refine hRC ?_ ?_ ?_ | simp (maxSteps := 2000000) (disch := first | assumption | omega | (simp only [Z1, Z0, List.length_cons, List.length_nil, List.length_append, List.length_take, List.length_drop]; omega) | fail) only [go_sem, -Int.reduceOfNat, *, Yx, ZU, Zm7, Zm6, Zi9, Zja, Ztk, Zmi, Zuq, Zjq, hi1, hj1, hp, decide_true] | ((first | refine Zn ?_ ?_ | refine Zh ?_ ?_ | refine Zm ?_ ?_ | refine Zf ?_ ?_ | refine Zg ?_ ?_ | refine Z5 ?_ ?_) <;> intro _ <;> (try (exfalso; omega))) | (show Q _ _; refine hq _ _ _ _ _ hrep ?_ ?_) | (refine hq _ _ _ _ _ hrep ?_ ?_) | (rintro h1 a b c d hrep n1 f1 m1; obtain ⟨oa, ob, oc, od⟩ := ZX hrep) | assumption | exact trivial | (show _ < _; omega) | (show _ ≤ _; omega) | (show ¬ (_ : Nat) = _; omega) | (show (_ : Nat) ≠ _; omega) | (show (_ : Nat) = _; omega) | (intro _; intros) | (refine ⟨_, by assumption, ?_⟩) | refine And.intro ?_ ?_))
    · rw [if_neg hp] at hq
      simp only [RQ] at hq
      repeat' (with_reducible (first | refine Za ?_ | refine Zb ?_ | refine Zk ?_ | refine Zj ?_ | refine Zd ?_ | refine Z3 ?_ | refine Zc ?_ | refine Zl ?_ | refine Z9 ?_ | refine Z4 ?_ | refine Ze ?_ | refine Zts eW0 ?_ | refine Zyo P ?_ | refine df_D ?_ | refine hRO ?_ | refine hRC ?_ ?_ ?_ | refine hFL (p := p') (n := n') ?_ ?_ | simp (maxSteps := 2000000) (disch := first | assumption | omega | (simp only [Z1, Z0, List.length_cons, List.length_nil, List.length_append, List.length_take, List.length_drop]; omega) | fail) only [go_sem, -Int.reduceOfNat, *, Yx, ZU, Zm7, Zm6, Zi9, Zja, Ztk, Zmi, Zuq, Zjq, hi1, hj1, hp, decide_false] | ((first | refine Zn ?_ ?_ | refine Zh ?_ ?_ | refine Zm ?_ ?_ | refine Zf ?_ ?_ | refine Zg ?_ ?_ | refine Z5 ?_ ?_) <;> intro _ <;> (try (exfalso; omega))) | (show Q _ _; refine hq _ ?_ ?_) | (refine hq _ ?_ ?_) | (rintro h1 a b c d hrep n1 f1 m1; obtain ⟨oa, ob, oc, od⟩ := ZX hrep) | assumption | exact trivial | (show _ < _; omega) | (show _ ≤ _; omega) | (show ¬ (_ : Nat) = _; omega) | (show (_ : Nat) ≠ _; omega) | (show (_ : Nat) = _; omega) | (intro _; intros) | (refine ⟨_, by assumption, ?_⟩) | refine And.intro ?_ ?_))
theorem vc9 {root : Nat} (P : RW E T F ds de dt root) (hT : RT E T F ds de dt) (h2 : RT2 E T) (hF : FOk F) (hb : ∀ b ∈ inp, b < 256) (hL : inp.length ≤ 1000000) {f : Nat} (hq : RQ (Zl0 F crc inp f root) h.next h Q) : VC E T 9 [Y7 ds de dt, .str inp] h Q R := by
  have hRI : ∀ {h : H} {Q : D → H → Prop} {R : Y1}, Q (.tup [.str [], .int .i64 (.ofNat 0)]) h → VC E T 25 [Y7 ds de dt] h Q R := fun a => Zri P.h25 P.same a
  have hWH : ∀ {pr : Nat} {h : H} {Q : D → H → Prop} {R : Y1}, hget h.mem pr = some (RC (Y7 ds de dt) inp 0 inp.length 0) → pr < h.next → RQ (Zl0 F crc inp f root) pr h Q → VC E T 26 [.ptr pr 0] h Q R := fun a1 a2 a3 => vc26 P hT h2 hF hb hL a1 a2 a3
  have hRD := P.h9
  have hfc : (Y7 ds de dt).cells = [Y7 ds de dt] := rfl
  have hfo : (Y7 ds de dt).one = true := rfl
  clear hT h2 hF hb P
  generalize Zl0 F crc inp f root = X at *
  refine Zp hRD ?_
  unfold Zs
  cases X with
  | oof => exact hq.elim
  | err p' e' =>
    simp only [RQ] at hq hWH
    repeat' (with_reducible (first | refine Za ?_ | refine Zb ?_ | refine Zk ?_ | refine Zj ?_ | refine Zd ?_ | refine Z3 ?_ | refine Zc ?_ | refine Zl ?_ | refine Z9 ?_ | refine Z4 ?_ | refine Ze ?_ | refine hRI ?_ | refine hWH ?_ ?_ ?_ | simp (maxSteps := 2000000) (disch := first | assumption | omega | (simp only [Z1, Z0, List.length_cons, List.length_nil, List.length_append, List.length_take, List.length_drop]; omega) | fail) only [go_sem, -Int.reduceOfNat, *, Zs3, Zoj] | ((first | refine Zn ?_ ?_ | refine Zh ?_ ?_ | refine Zm ?_ ?_ | refine Zf ?_ ?_ | refine Zg ?_ ?_ | refine Z5 ?_ ?_) <;> intro _ <;> (try (exfalso; omega))) | (show Q _ _; refine hq _ ?_ ?_) | (rintro h1 n1 f1) | assumption | exact trivial | (show _ < _; omega) | (show _ ≤ _; omega) | (show ¬ (_ : Nat) = _; omega) | (show (_ : Nat) ≠ _; omega) | (show (_ : Nat) = _; omega) | (intro _; intros) | (refine ⟨_, by assumption, ?_⟩) | refine And.intro ?_ ?_))
  | ok v p' n' =>
    simp only [RQ] at hq hWH
    repeat' (with_reducible (first | refine Za ?_ | refine Zb ?_ | refine Zk ?_ | refine Zj ?_ | refine Zd ?_ | refine Z3 ?_ | refine Zc ?_ | refine Zl ?_ | refine Z9 ?_ | refine Z4 ?_ | refine Ze ?_ | refine hRI ?_ | refine hWH ?_ ?_ ?_ | simp (maxSteps := 2000000) (disch := first | assumption | omega | (simp only [Z1, Z0, List.length_cons, List.length_nil, List.length_append, List.length_take, List.length_drop]; omega) | fail) only [go_sem, -Int.reduceOfNat, *, Zs3, Zoj] | ((first | refine Zn ?_ ?_ | refine Zh ?_ ?_ | refine Zm ?_ ?_ | refine Zf ?_ ?_ | refine Zg ?_ ?_ | refine Z5 ?_ ?_) <;> intro _ <;> (try (exfalso; omega))) | (show Q _ _; refine hq _ _ _ _ _ hrep ?_ ?_) | (rintro h1 a b c d hrep n1 f1; obtain ⟨oa, ob, oc, od⟩ := ZX hrep) | assumption | exact trivial | (show _ < _; omega) | (show _ ≤ _; omega) | (show ¬ (_ : Nat) = _; omega) | (show (_ : Nat) ≠ _; omega) | (show (_ : Nat) = _; omega) | (intro _; intros) | (refine ⟨_, by assumption, ?_⟩) | refine And.intro ?_ ?_))
end
end
end Run
end
end Go.Abs
