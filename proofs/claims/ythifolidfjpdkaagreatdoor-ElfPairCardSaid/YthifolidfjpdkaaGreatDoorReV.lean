/- The whole of an input: its code. -/
import Derived.Test.YthifolidfjpdkaaGreatDoorReR
import Derived.Test.YthifolidfjpdkaaGreatDoorNeW
import Derived.Test.YthifolidfjpdkaaGreatDoorNdTree
set_option linter.unusedVariables false
set_option linter.unusedSimpArgs false
namespace Go.Abs
noncomputable section
namespace Run
variable {E : Env} {T : Nat → ZV}
set_option maxHeartbeats 4000000
set_option maxRecDepth 100000
attribute [local go_sem] Zc2 Ud Zc3 Ub Uj Ua Ug Zc1 Uf Ue Zc0 XJ Ul XG Uh WM XH Ym WN UY Un WL Ui Uk Um WO YN WQ Zam Wq Wp Uc Vw Vx Zc5 Zc6 Uo Ut Ur XL XK Yn Uq Up Zc4 WR Uv Us Uu WS Zar Zap Zas Zao Vz Zaq VA Zat Vy VB Zc7 Zau Zc9 Uw Zc8 Zir Zis Zip Ziq Zes Zet UG UF UH UJ UI UK Zdh Zdg V7 V8 V6 Zda VI VJ VH V4 UA XU V1 V3 XV XW UD UC UB XR YX Wg Uy Zdd Zez Zps X0 YZ VE Za8 XX V0 Y0 ZH X2 Ys WI patch Yq Yr YW YV Wc Wb Xj Xk XD V9 Wa X3 Yv YY XY Xt X1 Yp ZN Yt mem_cons Zdf Zdc YT Option.map_some Option.map_none V5 Wx Wz Wy Za9 VG Ww VF YO YP X9 X4 Xa Wd X5 X8 X6 Yw X7 WX XP WZ WU Uz WV WY WW XQ XO YG Wo WH Zgx Zcp Zcy Zbp Zdj Zq7 Xi Xz Va WB Yo YU Yu Y1 ZU YH ZW Xm List.drop_succ_cons List.drop_zero List.drop_nil List.take_succ_cons List.take_zero List.take_nil List.length_cons List.length_nil List.length_append List.cons_append List.nil_append Nat.reduceAdd Nat.reduceEqDiff Nat.reduceLeDiff Nat.reduceLT List.cons.injEq reduceCtorEq eq_self not_true_eq_false not_false_eq_true and_false false_and true_or or_true decide_true decide_false Bool.and_self Bool.and_true Bool.true_and Bool.true_or Bool.or_true Bool.false_or Bool.or_false Bool.false_and Bool.and_false Bool.not_true Bool.not_false cond_true cond_false true_and and_true Zah Zde Zdi reduceIte Nat.add_zero Nat.zero_add Nat.add_sub_cancel Nat.reduceMul Nat.reduceSub Nat.reduceBEq List.map_cons List.map_nil Z8 Z7 Y2 Zi Zb Z9 Ws Zeu Wk ZY ZL Wu Wt XN XM and_assoc exists_and_left D.str.injEq Nat.lt_irrefl Nat.not_lt_zero true_implies false_implies implies_true forall_const ge_iff_le gt_iff_lt Nat.sub_zero List.append_assoc Option.some.injEq AObj.cells.injEq D.int.injEq D.ptr.injEq Int.ofNat.injEq exists_eq_left' D.v.injEq Value.bool.injEq D.agg.injEq Nat.mul_one
section
variable {h : H} {Q : D → H → Prop} {R : ZM}
section
variable {t : Tr D} {h : H}
def oNTT (o : Option (List D)) (d e : D) (h : H) : O D :=
  match o with
  | some cs => .ok (.tup [.agg cs,d,e]) h
  | none => .fail "results"
def oN11 (o : Option (List D)) (p q : Option (List D)) (h : H) : O D :=
  match o,p,q with
  | some cs,some [d],some [e] => .ok (.tup [.agg cs,d,e]) h
  | _,_,_ => .fail "results"
theorem Zqz {cs : List D} {d e : D} : oNTT (some cs) d e h = .ok (.tup [.agg cs,d,e]) h := rfl
theorem Zlp {cs : List D} {d e : D} : oN11 (some cs) (some [d]) (some [e]) h = .ok (.tup [.agg cs,d,e]) h := rfl
theorem Zv1 {n s m l : Nat} {c : CC} : UP ⟨[.cN n s,.t l,.t m],c⟩ (act t) h = oNTT (Z3 h (Gt n t) s) (Gt l t) (Gt m t) h := by
  simp only [Zdw,Zbj,Xl,Gt,geq]
  cases Z3 h ((act t).eval (.t n)) s <;> rfl
end
abbrev Z5x : CC := (.ops [⟨some 2,none,.alloc 39 [(.int .i64 (.ofNat 0)),(.int .u64 (.ofNat 0)),(.str []),(.v (.slice none 0 0))]⟩,⟨some 3,none,.alloc 3 [(.int .i64 (.ofNat 0))]⟩,⟨some 4,none,.alloc 26 [(.int .i64 (.ofNat 0))]⟩])
abbrev f26_0 : FC := (Z1 <| fo (Zo 39 [(.int .i64 (.ofNat 0)),(.int .u64 (.ofNat 0)),(.str []),(.v (.slice none 0 0))]) (St 2) <| fo (Zo 3 [(.int .i64 (.ofNat 0))]) (St 3) <| fo (Zo 26 [(.int .i64 (.ofNat 0))]) (St 4) <| Z2)
abbrev Z5w : CC := (.ops [⟨some 5,none,.mkf (.func 54) [] [(.t 2),(.t 3),(.t 4)]⟩,⟨none,none,.dfr (.t 5)⟩])
abbrev c26_2 : CC := (.draw [[],[0],[0],[0],[0],[0],[0],[0],[0,1,2,3,4,5,6,7],[0,1,2,3,4,5,6,7],[0,1,2,3,4,5,6,7],[0,1,2,3,4,5,6,7],[0,1,2,3,4,5,6,7],[0],[0],[],[]] [⟨some 6,none,.mv (.t 0)⟩,⟨some 7,none,.mv (.t 0)⟩,⟨some 8,none,.nilCheck (.t 7)⟩,⟨some 9,none,.fa 0 (.t 8)⟩,⟨some 10,none,.ld1 (.t 9)⟩,⟨some 11,none,.nilCheck (.t 10)⟩,⟨some 12,none,.fa 1 (.t 11)⟩,⟨some 13,none,.ld1 (.t 12)⟩,⟨some 14,none,.mv (.t 0)⟩,⟨some 15,none,.nilCheck (.t 14)⟩,⟨some 16,none,.fa 0 (.t 15)⟩,⟨some 17,none,.ld1 (.t 16)⟩,⟨some 18,none,.call (.d (.v (.func (.func 56) #[] #[]))) [(.t 17)]⟩,⟨some 19,none,.ixs 3 (.t 13) (.t 18)⟩,⟨some 20,none,.ldN 3 (.t 19)⟩,⟨some 21,none,.call (.d (.v (.func (.func 55) #[] #[]))) [(.t 6),(.t 20),(.d (.v (.slice none 0 0)))]⟩,⟨none,none,.st 4 (.t 2) (.t 21)⟩])
abbrev f26_2 : FC := (Xf <| Ze (Zh (Gt 0)) (St 6) <| Ze (Zh (Gt 0)) (St 7) <| Ze (u1 Z4 (Gt 7)) (St 8) <| Ze (u1 (Zt 0) (Gt 8)) (St 9) <| Xw 4 [0] 1 (Gt 9) (Zl (Gt 9)) (St 10) <| Ze (u1 Z4 (Gt 10)) (St 11) <| Ze (u1 (Zt 1) (Gt 11)) (St 12) <| Xw 7 [0] 1 (Gt 12) (Zl (Gt 12)) (St 13) <| Ze (Zh (Gt 0)) (St 14) <| Ze (u1 Z4 (Gt 14)) (St 15) <| Ze (u1 (Zt 0) (Gt 15)) (St 16) <| Xw 11 [0,1,2,3,4,5,6,7] 1 (Gt 16) (Zl (Gt 16)) (St 17) <| Zju 12 [0,1,2,3,4,5,6,7] (Zw 56 [(Gt 17)]) (St 18) <| Ze (u2 (ZZ 3) (Gt 13) (Gt 18)) (St 19) <| Xw 14 [0] 3 (Gt 19) (YB 3 (Gt 19)) (St 20) <| Zju 15 [] (Zw 55 [(Gt 6),(Gt 20),(kD (.v (.slice none 0 0)))]) (St 21) <| Zg8 16 [] (ZF 4 (Gt 2) (Gt 21)) p0 <| Xg)
abbrev c26_3 : CC := (.seq (.draw [[],[],[],[],[0,1,2,3],[0,1,2,3],[0,1,2,3],[0,1,2,3],[0,1,2,3],[]] [⟨some 22,none,.mv (.t 0)⟩,⟨some 23,none,.nilCheck (.t 22)⟩,⟨some 24,none,.fa 2 (.t 23)⟩,⟨some 25,none,.ld1 (.t 24)⟩,⟨some 26,none,.mv (.t 0)⟩,⟨some 27,none,.nilCheck (.t 26)⟩,⟨some 28,none,.fa 1 (.t 27)⟩,⟨some 29,none,.ld1 (.t 28)⟩,⟨some 30,none,.lens (.t 29)⟩,⟨some 31,none,.bin .neq 3 (.tmp 25) (.tmp 30) (.t 25) (.t 30)⟩]) (.cond (.t 31) (.ops [⟨some 32,none,.mv (.t 0)⟩,⟨some 33,none,.call (.d (.v (.func (.func 57) #[] #[]))) [(.t 32),(.d (.int .i64 (.ofNat 21)))]⟩]) .skip))
abbrev f26_3 : FC := (Z0 (Xf <| Ze (Zh (Gt 0)) (St 22) <| Ze (u1 Z4 (Gt 22)) (St 23) <| Ze (u1 (Zt 2) (Gt 23)) (St 24) <| Xw 3 [] 1 (Gt 24) (Zl (Gt 24)) (St 25) <| Ze (Zh (Gt 0)) (St 26) <| Ze (u1 Z4 (Gt 26)) (St 27) <| Ze (u1 (Zt 1) (Gt 27)) (St 28) <| Xw 7 [0,1,2,3] 1 (Gt 28) (Zl (Gt 28)) (St 29) <| Ze (u1 Vm (Gt 29)) (St 30) <| Ze (Za Wo .neq 3 (.tmp 25) (.tmp 30) (Gt 25) (Gt 30)) (St 31) <| Xg)
 (Zg (Gt 31) (Z1<|mM 0 32<|mK 57 [(Gt 32),(kI 21)] 33<|Z2) Zx))
abbrev c26_4 : CC := (.ops [⟨some 34,none,.ldN 4 (.t 2)⟩,⟨none,none,.st 4 (.t 2) (.t 34)⟩,⟨none,none,.st 1 (.t 3) (.d (.int .i64 (.ofNat 0)))⟩,⟨none,none,.st 1 (.t 4) (.d (.int .i64 (.ofNat 0)))⟩])
abbrev f26_4 : FC := (Z1 <| fo (YB 4 (Gt 2)) (St 34) <| fo (ZF 4 (Gt 2) (Gt 34)) p0 <| mS 3 (kI 0) <| mS 4 (kI 0) <| Z2)
abbrev c26_5 : CC := .ret
abbrev f26_5 : FC := Zv
abbrev cWB : CC := .seq c26_2 (.seq c26_3 (.seq c26_4 c26_5))
abbrev fWB : FC := Z0 f26_2 (Z0 f26_3 (Z0 f26_4 f26_5))
def nW : CFn := ⟨[.cN 2 4,.c1 3,.c1 4],.seq Z5x (.seq Z5w cWB)⟩
def cD : CC := (.block 0 (.seq (.ops [⟨some 8,none,.bin .eql 20 (.tmp 6) (.const .nilIface) (.t 6) (.d (.v .nilIface))⟩]) (.cond (.t 8) (.ops [⟨some 3,none,.mv (.t 6)⟩]) (.seq (.ops [⟨some 9,none,.tas 143 (.agg [(.int .i64 (.ofNat 0)),(.int .i64 (.ofNat 0))]) (.t 6) true⟩,⟨some 10,none,.ext 1 (.t 9)⟩,⟨some 11,none,.ext 0 (.t 9)⟩]) (.cond (.t 10) (.seq (.ops [⟨some 4,none,.alloc 143 [(.int .i64 (.ofNat 0)),(.int .i64 (.ofNat 0))]⟩,⟨none,none,.st 2 (.t 4) (.t 11)⟩]) (.draw [[],[0],[0],[0,1,2],[0,1,2],[1,2,3,4],[3,4],[]] [⟨some 12,none,.build [(.int .i64 (.ofNat 0)),(.int .u64 (.ofNat 0)),(.str []),(.v (.slice none 0 0))] []⟩,⟨some 13,none,.fa 0 (.t 4)⟩,⟨some 14,none,.ld1 (.t 13)⟩,⟨some 15,none,.fa 1 (.t 4)⟩,⟨some 16,none,.ld1 (.t 15)⟩,⟨none,none,.st 4 (.t 0) (.t 12)⟩,⟨none,none,.st 1 (.t 1) (.t 14)⟩,⟨none,none,.st 1 (.t 2) (.t 16)⟩])) (.seq (.ops [⟨some 5,none,.mv (.t 6)⟩]) (.ops [⟨some 7,none,.mv (.t 5)⟩,⟨none,none,.panic (.t 7)⟩])))))))
abbrev fD : FC := (ZA 0 (Z0 (Z1 <| fo (Za YG .eql 20 (.tmp 6) (.const .nilIface) (Gt 6) (kD (.v .nilIface))) (St 8) <| Z2)
 (Zg (Gt 8) (Z1<|fo (Zh (Gt 6)) (St 3)<|Z2) (Z0 (Z1<|fo (u1 (fun x => Zew 143 (.agg [(.int .i64 (.ofNat 0)),(.int .i64 (.ofNat 0))]) x true) (Gt 6)) (St 9)<|fo (u1 (Xe 1) (Gt 9)) (St 10)<|fo (u1 (Xe 0) (Gt 9)) (St 11)<|Z2)
 (Zg (Gt 10) (Z0 (Z1<|fo (Zo 143 [(.int .i64 (.ofNat 0)),(.int .i64 (.ofNat 0))]) (St 4)<|fo (ZF 2 (Gt 4) (Gt 11)) p0<|Z2)
 (Xf<|Ze (YQ [(.int .i64 (.ofNat 0)),(.int .u64 (.ofNat 0)),(.str []),(.v (.slice none 0 0))] []) (St 12)<|Ze (u1 (Zt 0) (Gt 4)) (St 13)<|Xw 2 [0] 1 (Gt 13) (Zl (Gt 13)) (St 14)<|Ze (u1 (Zt 1) (Gt 4)) (St 15)<|Xw 4 [0,1,2] 1 (Gt 15) (Zl (Gt 15)) (St 16)<|Zg8 5 [1,2,3,4] (ZF 4 (Gt 0) (Gt 12)) p0<|Zg8 6 [3,4] (ZF 1 (Gt 1) (Gt 14)) p0<|Zg8 7 [] (ZF 1 (Gt 2) (Gt 16)) p0<|Xg)) (Z0 (Z1<|fo (Zh (Gt 6)) (St 5)<|Z2)
 (Z1<|fo (Zh (Gt 5)) (St 7)<|fo (u1 US (Gt 7)) p0<|Z2)))))))
theorem eW0 : Xh Z5x = f26_0 := rfl
theorem eWB : Xh cWB = fWB := rfl
theorem eD : Xh cD = fD := rfl
theorem Z57 {i : Nat} {d : D} {t : Tr D} : t.set i (some d) = St i d t := (Zoi ..).symm
theorem Zxw {t : Tr D} {h : H} : UP nW (act t) h = oN11 (Z3 h (Gt 2 t) 4) (Z3 h (Gt 3 t) 1) (Z3 h (Gt 4 t) 1) h := by
  simp only [nW,Zdw,Zbj,Xl,Gt,geq]
  cases Z3 h ((act t).eval (.t 2)) 4 with
  | none => cases Z3 h ((act t).eval (.t 3)) 1 with
    | none => rfl
    | some l => cases l with
      | nil => rfl
      | cons a l => cases l <;> (cases Z3 h ((act t).eval (.t 4)) 1 with
        | none => rfl
        | some m => cases m with
          | nil => rfl
          | cons b m => cases m <;> rfl)
  | some cs => cases Z3 h ((act t).eval (.t 3)) 1 with
    | none => rfl
    | some l => cases l with
      | nil => rfl
      | cons a l => cases l <;> (cases Z3 h ((act t).eval (.t 4)) 1 with
        | none => rfl
        | some m => cases m with
          | nil => rfl
          | cons b m => cases m <;> rfl)
end
section
variable {h : H} {Q : D → H → Prop} {R : ZM}
def q9 : ZV := Zbg Zf (fun t h => UP ⟨[.cN 4 4,.t 5,.t 6],.skip⟩ (act t) h)
 (Z0 (Z1<|fo (Zo 39 [(.int .i64 (.ofNat 0)),(.int .u64 (.ofNat 0)),(.str []),(.v (.slice none 0 0))]) (St 4)<|fo (Zh (kI 0)) (St 5)<|fo (Zh (kI 0)) (St 6)<|Z2)
 (Z0 (Z0 (Z1<|mM 0 10<|mK 25 [(Gt 10)] 11<|mM 11 9<|mE 0 9 12<|mE 1 9 13<|mM 12 7<|mM 13 8<|Z2)
 (Z0 (Z1<|mM 8 14<|fo (mR 26 14 0) (St 15)<|Z2)
 (Zg (Gt 15) (Z0 (Z1<|fo (YQ [(.int .i64 (.ofNat 0)),(.int .u64 (.ofNat 0)),(.str []),(.v (.slice none 0 0))] []) (St 16)<|mM 8 17<|fo (ZF 4 (Gt 4) (Gt 16)) p0<|fo (Zh (kI 0)) (St 5)<|mM 17 6<|Z2)
 Zv) Zx)))
 (Z0 (Z0 (Z1<|mM 1 18<|fo (u1 Vm (Gt 18)) (St 19)<|fo (Za Zcp .gtr 3 (.tmp 19) (.const (.int .i64 (.ofNat 1048576))) (Gt 19) (kI 1048576)) (St 20)<|Z2)
 (Zg (Gt 20) (Z0 (Z1<|fo (YQ [(.int .i64 (.ofNat 0)),(.int .u64 (.ofNat 0)),(.str []),(.v (.slice none 0 0))] []) (St 21)<|fo (ZF 4 (Gt 4) (Gt 21)) p0<|fo (Zh (kI 0)) (St 5)<|fo (Zh (kI 7)) (St 6)<|Z2)
 Zv) Zx))
 (Z0 (Z1<|mM 0 22<|mM 1 23<|mM 1 24<|fo (u1 Vm (Gt 24)) (St 25)<|fo (YQ [(.v (.pointer none)),(.str []),(.int .i64 (.ofNat 0)),(.int .i64 (.ofNat 0)),(.int .i64 (.ofNat 0))] [(0,1,(Gt 22)),(1,1,(Gt 23)),(3,1,(Gt 25))]) (St 26)<|fo (Zai 94 (Gt 26)) (St 27)<|mK 26 [(Gt 27)] 28<|mE 0 28 29<|mE 1 28 30<|mE 2 28 31<|fo (ZF 4 (Gt 4) (Gt 29)) p0<|mM 30 5<|mM 31 6<|Z2)
 Zv))))
structure RW (E : Env) (T : Nat → ZV) (F : XF) (ds de dt : D) (root : Nat) : Prop where
  h26 : T 26 = Ze1 nW
  h9 : T 9 = q9
  h56 : T 56 = YK (Zy [Y3 ds de dt] (.int .i64 (.ofNat root)))
  h25 : T 25 = YK (Zy [Y3 ds de dt] (.tup [.str [],.int .i64 (.ofNat 0)]))
  same : D.same (Y3 ds de dt) (Y3 ds de dt) = true
  sameS : D.same ds ds = true
  dD : E.dfrs 54 = some (some 6,cD)
  i1 : ∀ (a b : Nat) (h : H),Zha E YG .eql 20 (.tmp 6) (.const .nilIface) (.iface 143 (.agg [.int .i64 (.ofNat a),.int .i64 (.ofNat b)])) (.v .nilIface) h = .ok (.v (.bool false)) h
  j1 : ∀ (h : H),Zha E YG .eql 20 (.tmp 6) (.const .nilIface) (.v .nilIface) (.v .nilIface) h = .ok (.v (.bool true)) h
section
variable {F : XF} {crc : Zm3} {ds de dt : D} {inp : List Nat} {pr ps p e0 n : Nat} {env : Ev} {fp : D} {kind : Nat → Ev → Nat → Nat → Nat → RO V}
theorem noP (h56 : T 56 = YK (Zy [Y3 ds de dt] (.int .i64 (.ofNat n)))) : ∀ m,NoP (fun k => Nat.beq k 56) (ZI E T m)
  | 0,k,args,h,d,h',hk,he => by cases he
  | m + 1,k,args,h,d,h',hk,he => by
    have := Nat.eq_of_beq_eq_true hk
    subst this
    have e : ZI E T (m + 1) 56 args h = YK (Zy [Y3 ds de dt] (.int .i64 (.ofNat n))) E m (ZI E T m) args h := by
      show T 56 E m (ZI E T m) args h = _
      rw [h56]
    rw [e] at he
    simp only [YK,Zy] at he
    cases hs : ZR args [Y3 ds de dt] <;> rw [hs] at he <;> cases he
theorem Zuc {k : Nat} {r : D} (hk : T k = YK (Zy [Y3 ds de dt] r)) (hs : D.same (Y3 ds de dt) (Y3 ds de dt) = true) (hq : Q r h) : VC E T k [Y3 ds de dt] h Q R := Zbr hk (by
  show VO Q R (bif ZR [Y3 ds de dt] [Y3 ds de dt] then .ok r h else .fail "another call")
  rw [ZL,hs,ZY]
  exact hq)
theorem Z2j {root : Nat} (P : RW E T F ds de dt root) {t : Tr D} {h : H} {Q : D → H → Prop} {R : ZM} (hx : VP E T fWB (St 5 (.func (.func 54) [] [Gt 2 t,Gt 3 t,Gt 4 t]) t) h (fun e t' h' => (∀ i,e ≠ .exit i) ∧ DF E T nW (some 6) cD [Gt 2 t,Gt 3 t,Gt 4 t] none t h' Q) (fun d h' => DF E T nW (some 6) cD [Gt 2 t,Gt 3 t,Gt 4 t] (some d) t h' Q)) : SL E T nW (.seq Z5w cWB) (act t) h Q R := by
  refine sl_dfr (noP P.h56) (xs := []) (ys := [Gt 2 t,Gt 3 t,Gt 4 t]) (by decide) (by decide) (by decide) eWB P.dD rfl (by simp only [AAct.evals,Gt,geq]) ?_
  rw [Z57]
  exact hx
theorem df_D {a b c : D} {r : Option D} {t : Tr D} {h : H} {Q : D → H → Prop} (hx : VP E T fD (St 6 (Zlb r) (St 2 c (St 1 b (St 0 a .nil)))) h (fun e _ h' => (∀ i,e ≠ .exit i) ∧ sC (UP nW (act t) h') Q) (fun _ _ => False)) : DF E T nW (some 6) cD [a,b,c] r t h Q := by
  unfold DF
  rw [eD,show ((start [a,b,c] none).put (some 6) (Zlb r)).tmps = St 6 (Zlb r) (St 2 c (St 1 b (St 0 a .nil))) by
    simp only [← Z57]; rfl]
  exact hx
theorem Zpd : (∀ i,AExit.normal ≠ .exit i) ↔ True := ⟨fun _ => trivial,fun _ i h => by cases h⟩
theorem Zpc : (∀ i,AExit.ret ≠ .exit i) ↔ True := ⟨fun _ => trivial,fun _ i h => by cases h⟩
theorem Zk9 {d : D} : Zlb (some d) = d := rfl
theorem Zla : Zlb none = .v .nilIface := rfl
def RQ (x : RO V) (pr : Nat) (h : H) (Q : D → H → Prop) : Prop :=
  match x with
  | .ok v _ _ => ∀ h' a b c d,Rep v [a,b,c,d] → h.next ≤ h'.next → (∀ x,x < h.next → x ≠ pr → hget h'.mem x = hget h.mem x) → Q (.tup [.agg [a,b,c,d],.int .i64 (.ofNat 0),.int .i64 (.ofNat 0)]) h'
  | .err p e => ∀ h',h.next ≤ h'.next → (∀ x,x < h.next → x ≠ pr → hget h'.mem x = hget h.mem x) → Q (.tup [.agg [.int .i64 (.ofNat 0),.int .u64 (.ofNat 0),.str [],.v (.slice none 0 0)],.int .i64 (.ofNat p),.int .i64 (.ofNat e)]) h'
  | .oof => False
theorem vc26 {root : Nat} (P : RW E T F ds de dt root) (hT : RT E T F ds de dt) (h2 : RT2 E T) (hF : FOk F) (hb : ∀ b ∈ inp,b < 256) (hL : inp.length ≤ 1000000) {f : Nat} (hr : hget h.mem pr = some (RC (Y3 ds de dt) inp 0 inp.length 0)) (np : pr < h.next) (hq : RQ (Zj5 F crc inp f root) pr h Q) : VC E T 26 [.ptr pr 0] h Q R := by
  unfold Zj5 at hq
  cases hx : F.ss[root]? with
  | none => rw [hx] at hq; exact hq.elim
  | some s =>
  rw [hx] at hq
  simp only [] at hq
  obtain ⟨c,r,hc,hz,hix⟩ := Zcg hT.rowS (by decide) hx
  obtain ⟨di,rfl,hk⟩ := hc
  have hdi := Zm hk
  have hdo := Zs hk
  have hsc := Zm hT.rowS
  have hso := Zs hT.rowS
  have hRO : ∀ {h : H} {Q : D → H → Prop} {R : ZM},Q (.int .i64 (.ofNat root)) h → VC E T 56 [Y3 ds de dt] h Q R := fun a => Zuc P.h56 P.same a
  have hFL : ∀ {p n : Nat} {h : H} {Q : D → H → Prop} {R : ZM},hget h.mem pr = some (RC (Y3 ds de dt) inp p inp.length n) → R (Zhb p 21) h → VC E T 57 [.ptr pr 0,.int .i64 (.ofNat 21)] h Q R := fun a1 a2 => Zrx hT.h57 a1 a2
  have hRC : ∀ {h : H} {Q : D → H → Prop} {R : ZM},hget h.mem pr = some (RC (Y3 ds de dt) inp 0 inp.length 0) → pr < h.next → KQ (WT F crc inp (Yi F crc inp f) s 0 inp.length 0) (Y3 ds de dt) inp pr inp.length h Q R → VC E T 55 [.ptr pr 0,.agg [.str s.nm,.v (.slice none 0 0),di],.v (.slice none 0 0)] h Q R := fun a1 a2 a3 => vcRec hT h2 (vcKind hT h2 hF hb hL f) (Zox f) hF hL (List.mem_of_getElem? hx) hk a1 a2 (Nat.zero_le _) (Nat.le_refl _) (by omega) a3
  have hi1 := P.i1
  have hsd := P.sameS
  have hsf := P.same
  have hj1 := P.j1
  clear hT h2 hF hb hk hz hx
  generalize WT F crc inp (Yi F crc inp f) s 0 inp.length 0 = X at hq hRC
  refine Z6h P.h26 ?_
  show SL E T nW (.seq Z5x (.seq Z5w cWB)) (act (Zef 0 [St 0] [.ptr pr 0] .nil)) h Q R
  cases X with
  | oof => exact hq.elim
  | err p' e' =>
    simp only [RO.bind,RQ] at hq
    repeat' (with_reducible (first | refine zc ?_ | refine Zwq eW0 ?_ | refine Z2j P ?_ | refine df_D ?_ | refine hRO ?_ | refine hRC ?_ ?_ ?_ | simp (maxSteps := 2000000) (disch := first | exact zd | fail) only [go_sem, -Int.reduceOfNat, *,YI,ZK,Zpd,Zpc,Zk9,Zla,Zwi,Zon,Zxw,Zlp,hi1,hj1] | (refine zb ?_ ?_ <;> intro _ <;> (try (exfalso; omega))) | (show Q _ _; refine hq _ ?_ ?_) | (refine hq _ ?_ ?_) | (rintro h1 n1 f1) | exact ze | (intro _; intros) | (refine ⟨_,by assumption, ?_⟩) | refine And.intro ?_ ?_))
  | ok v p' n' =>
    simp only [RO.bind] at hq
    by_cases hp : p' = inp.length
    · rw [if_pos hp] at hq
      simp only [RQ] at hq
      repeat' (with_reducible (first | refine zc ?_ | refine Zwq eW0 ?_ | refine Z2j P ?_ | refine df_D ?_ | refine hRO ?_ | refine hRC ?_ ?_ ?_ | simp (maxSteps := 2000000) (disch := first | exact zd | fail) only [go_sem, -Int.reduceOfNat, *,YI,ZK,Zpd,Zpc,Zk9,Zla,Zwi,Zon,Zxw,Zlp,hi1,hj1,hp,decide_true] | (refine zb ?_ ?_ <;> intro _ <;> (try (exfalso; omega))) | (show Q _ _; refine hq _ _ _ _ _ hrep ?_ ?_) | (refine hq _ _ _ _ _ hrep ?_ ?_) | (rintro h1 a b c d hrep n1 f1 m1; obtain ⟨oa,ob,oc,od⟩ := ZT hrep) | exact ze | (intro _; intros) | (refine ⟨_,by assumption, ?_⟩) | refine And.intro ?_ ?_))
    · rw [if_neg hp] at hq
      simp only [RQ] at hq
      repeat' (with_reducible (first | refine zc ?_ | refine Zwq eW0 ?_ | refine Z2j P ?_ | refine df_D ?_ | refine hRO ?_ | refine hRC ?_ ?_ ?_ | refine hFL (p := p') (n := n') ?_ ?_ | simp (maxSteps := 2000000) (disch := first | exact zd | fail) only [go_sem, -Int.reduceOfNat, *,YI,ZK,Zpd,Zpc,Zk9,Zla,Zwi,Zon,Zxw,Zlp,hi1,hj1,hp,decide_false] | (refine zb ?_ ?_ <;> intro _ <;> (try (exfalso; omega))) | (show Q _ _; refine hq _ ?_ ?_) | (refine hq _ ?_ ?_) | (rintro h1 a b c d hrep n1 f1 m1; obtain ⟨oa,ob,oc,od⟩ := ZT hrep) | exact ze | (intro _; intros) | (refine ⟨_,by assumption, ?_⟩) | refine And.intro ?_ ?_))
theorem vc9 {root : Nat} (P : RW E T F ds de dt root) (hT : RT E T F ds de dt) (h2 : RT2 E T) (hF : FOk F) (hb : ∀ b ∈ inp,b < 256) (hL : inp.length ≤ 1000000) {f : Nat} (hq : RQ (Zj5 F crc inp f root) h.next h Q) : VC E T 9 [Y3 ds de dt,.str inp] h Q R := by
  have hRI : ∀ {h : H} {Q : D → H → Prop} {R : ZM},Q (.tup [.str [],.int .i64 (.ofNat 0)]) h → VC E T 25 [Y3 ds de dt] h Q R := fun a => Zuc P.h25 P.same a
  have hWH : ∀ {pr : Nat} {h : H} {Q : D → H → Prop} {R : ZM},hget h.mem pr = some (RC (Y3 ds de dt) inp 0 inp.length 0) → pr < h.next → RQ (Zj5 F crc inp f root) pr h Q → VC E T 26 [.ptr pr 0] h Q R := fun a1 a2 a3 => vc26 P hT h2 hF hb hL a1 a2 a3
  have hRD := P.h9
  have hfc : (Y3 ds de dt).cells = [Y3 ds de dt] := rfl
  have hfo : (Y3 ds de dt).one = true := rfl
  clear hT h2 hF hb P
  generalize Zj5 F crc inp f root = X at *
  refine Zd hRD ?_
  unfold Zf
  cases X with
  | oof => exact hq.elim
  | err p' e' =>
    simp only [RQ] at hq hWH
    repeat' (with_reducible (first | refine zc ?_ | refine hRI ?_ | refine hWH ?_ ?_ ?_ | simp (maxSteps := 2000000) (disch := first | exact zd | fail) only [go_sem, -Int.reduceOfNat, *,Zv1,Zqz] | (refine zb ?_ ?_ <;> intro _ <;> (try (exfalso; omega))) | (show Q _ _; refine hq _ ?_ ?_) | (rintro h1 n1 f1) | exact ze | (intro _; intros) | (refine ⟨_,by assumption, ?_⟩) | refine And.intro ?_ ?_))
  | ok v p' n' =>
    simp only [RQ] at hq hWH
    repeat' (with_reducible (first | refine zc ?_ | refine hRI ?_ | refine hWH ?_ ?_ ?_ | simp (maxSteps := 2000000) (disch := first | exact zd | fail) only [go_sem, -Int.reduceOfNat, *,Zv1,Zqz] | (refine zb ?_ ?_ <;> intro _ <;> (try (exfalso; omega))) | (show Q _ _; refine hq _ _ _ _ _ hrep ?_ ?_) | (rintro h1 a b c d hrep n1 f1; obtain ⟨oa,ob,oc,od⟩ := ZT hrep) | exact ze | (intro _; intros) | (refine ⟨_,by assumption, ?_⟩) | refine And.intro ?_ ?_))
end
end
end Run
end
end Go.Abs
