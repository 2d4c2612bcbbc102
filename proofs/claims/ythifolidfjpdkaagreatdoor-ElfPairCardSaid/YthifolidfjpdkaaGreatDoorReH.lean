/- Types: which function reads them: walks of the program. -/
import Derived.Test.YthifolidfjpdkaaGreatDoorReC
import Derived.Test.YthifolidfjpdkaaGreatDoorRdS
set_option linter.unusedVariables false
set_option linter.unusedSimpArgs false
namespace Go.Abs
noncomputable section
namespace Run
variable {E : Env} {T : Nat → ZV}
set_option maxHeartbeats 4000000
set_option maxRecDepth 100000
theorem Zgn {G : Prop} (g : G := by
  repeat' (with_reducible (first | refine zc ?_ | refine hS ?_ ?_ ?_ ?_ ?_ | simp (maxSteps := 2000000) (disch := first | exact zd | fail) only [go_sem, -Int.reduceOfNat, *,ZK] | (refine zb ?_ ?_ <;> intro _) | (refine hq _ ?_ ?_) | (rintro h1 n1 f1) | exact ze | (intro _; intros) | (refine ⟨_,by assumption, ?_⟩) | refine And.intro ?_ ?_))) : G := g
attribute [local go_sem] Zc2 Ud Zc3 Ub Uj Ua Ug Zc1 Uf Ue Zc0 XJ Ul XG Uh WM XH Ym WN UY Un WL Ui Uk Um WO YN WQ Zam Wq Wp Uc Vw Vx Zc5 Zc6 Uo Ut Ur XL XK Yn Uq Up Zc4 WR Uv Us Uu WS Zar Zap Zas Zao Vz Zaq VA Zat Vy VB Zc7 Zau Zc9 Uw Zc8 Zir Zis Zip Ziq Zes Zet UG UF UH UJ UI UK Zdh Zdg V7 V8 V6 Zda VI VJ VH V4 UA XU V1 V3 XV XW UD UC UB XR YX Wg Uy Zdd Zez Zps X0 YZ VE Za8 XX V0 Y0 ZH X2 Ys WI patch Yq Yr YW YV Wc Wb Xj Xk XD V9 Wa X3 Yv YY XY Xt X1 Yp ZN Yt mem_cons Zdf Zdc YT Option.map_some Option.map_none V5 Wx Wz Wy Za9 VG Ww VF YO YP X9 X4 Xa Wd X5 X8 X6 Yw X7 WX XP WZ WU Uz WV WY WW XQ XO YG Wo WH Zgx Zcp Zcy Zbp Zdj Zq7 Xi Xz Va WB Yo YU Yu Y1 ZU YH ZW Xm List.drop_succ_cons List.drop_zero List.drop_nil List.take_succ_cons List.take_zero List.take_nil List.length_cons List.length_nil List.length_append List.cons_append List.nil_append Nat.reduceAdd Nat.reduceEqDiff Nat.reduceLeDiff Nat.reduceLT List.cons.injEq reduceCtorEq eq_self not_true_eq_false not_false_eq_true and_false false_and true_or or_true decide_true decide_false Bool.and_self Bool.and_true Bool.true_and Bool.true_or Bool.or_true Bool.false_or Bool.or_false Bool.false_and Bool.and_false Bool.not_true Bool.not_false cond_true cond_false true_and and_true Zah Zde Zdi reduceIte Nat.add_zero Nat.zero_add Nat.add_sub_cancel Nat.reduceMul Nat.reduceSub Nat.reduceBEq List.map_cons List.map_nil Z8 Z7 Y2 Zi Zb Z9 Ws Zeu Wk ZY ZL Wu Wt XN XM and_assoc exists_and_left D.str.injEq Nat.lt_irrefl Nat.not_lt_zero true_implies false_implies implies_true forall_const ge_iff_le gt_iff_lt Nat.sub_zero List.append_assoc Option.some.injEq AObj.cells.injEq D.int.injEq D.ptr.injEq Int.ofNat.injEq exists_eq_left' D.v.injEq Value.bool.injEq D.agg.injEq Nat.mul_one
variable {h : H} {Q : D → H → Prop} {R : ZM}
def q123 : ZV := Zbg Zf (fun t h => UP ⟨[.cN 4 4],.skip⟩ (act t) h)
 (Z0 (Z1<|fo (Zo 39 [(.int .i64 (.ofNat 0)),(.int .u64 (.ofNat 0)),(.str []),(.v (.slice none 0 0))]) (St 4)<|Z2)
 (Z0 (Z1<|mM 0 9<|mN 9 10<|mF 0 10 11<|mL 11 12<|mN 12 13<|mF 0 13 14<|mL 14 15<|mN 15 16<|mF 3 16 17<|mL 17 18<|mM 1 19<|fo (u2 (ZZ 8) (Gt 18) (Gt 19)) (St 20)<|fo (YB 8 (Gt 20)) (St 21)<|fo (Zo 109 [(.int .i64 (.ofNat 0)),(.int .i64 (.ofNat 0)),(.v (.bool false)),(.str []),(.v (.slice none 0 0)),(.int .i64 (.ofNat 0)),(.int .i64 (.ofNat 0)),(.v (.slice none 0 0))]) (St 5)<|fo (ZF 8 (Gt 5) (Gt 21)) p0<|Z2)
 (Z0 (Z0 (Z1<|mF 0 5 22<|mL 22 23<|Z2)
 (ZA 0 (Z0 (Z1<|fo (mQ 106 23 0) (St 25)<|mM 25 24<|Z2)
 (Zg (Gt 24) (Z0 (Xf<|Ze (Zh (Gt 0)) (St 26)<|Ze (u1 Z4 (Gt 26)) (St 27)<|Ze (u1 (Zt 0) (Gt 27)) (St 28)<|Xw 3 [] 1 (Gt 28) (Zl (Gt 28)) (St 29)<|Ze (u1 (Zt 1) (Gt 5)) (St 30)<|Xw 5 [0,1,2,3] 1 (Gt 30) (Zl (Gt 30)) (St 31)<|Ze (u1 (Zt 2) (Gt 5)) (St 32)<|Xw 7 [0,1,2,3,4,5] 1 (Gt 32) (Zl (Gt 32)) (St 33)<|Zju 8 [] (Zw 121 [(Gt 29),(Gt 31),(Gt 33)]) (St 34)<|Ze (Zh (Gt 34)) (St 6)<|Xg)
 (Z0 (Z1<|mM 0 35<|mN 35 36<|mF 0 36 37<|mL 37 38<|mK 85 [(Gt 38)] 39<|Z2)
 (Z0 (Z1<|mM 6 40<|mK 122 [(Gt 40)] 41<|fo (ZF 4 (Gt 4) (Gt 41)) p0<|Z2)
 Zv))) (Z0 (Z1 <| fo (mQ 106 23 1) (St 43) <| mM 43 42 <| Z2)
 (Zg (Gt 42) (Z0 (Xf<|Ze (Zh (Gt 0)) (St 44)<|Ze (u1 Z4 (Gt 44)) (St 45)<|Ze (u1 (Zt 0) (Gt 45)) (St 46)<|Xw 3 [] 1 (Gt 46) (Zl (Gt 46)) (St 47)<|Ze (Zh (Gt 0)) (St 48)<|Ze (u1 (Zt 5) (Gt 5)) (St 49)<|Xw 6 [0,1,2,3,4] 1 (Gt 49) (Zl (Gt 49)) (St 50)<|Zju 7 [0,1,2,3] (Zw 125 [(Gt 48),(Gt 50)]) (St 51)<|Zju 8 [] (Zw 172 [(Gt 47),(Gt 51)]) (St 52)<|Ze (Zh (Gt 52)) (St 7)<|Xg)
 (Z0 (Z1<|mM 0 53<|mN 53 54<|mF 0 54 55<|mL 55 56<|mK 85 [(Gt 56)] 57<|Z2)
 (Z0 (Z1<|mM 7 58<|mK 11 [(Gt 58)] 59<|fo (ZF 4 (Gt 4) (Gt 59)) p0<|Z2)
 Zv))) (Z0 (Z0 (Z1 <| fo (mQ 106 23 2) (St 61) <| mM 61 60 <| Z2)
 (Zg (Gt 60) Zx (Z1<|fo (mQ 106 23 3) (St 62)<|mM 62 60<|Z2)))
 (Zg (Gt 60) (Z0 (Z1<|mM 0 63<|fo (YB 8 (Gt 5)) (St 64)<|mK 173 [(Gt 63),(Gt 64)] 65<|fo (ZF 4 (Gt 4) (Gt 65)) p0<|Z2)
 Zv) (Z0 (Z1 <| fo (mQ 106 23 4) (St 67) <| mM 67 66 <| Z2)
 (Zg (Gt 66) (Z0 (Xf<|Ze (Zh (Gt 0)) (St 68)<|Ze (u1 Z4 (Gt 68)) (St 69)<|Ze (u1 (Zt 0) (Gt 69)) (St 70)<|Xw 3 [] 1 (Gt 70) (Zl (Gt 70)) (St 71)<|Ze (Zh (Gt 0)) (St 72)<|Ze (u1 Z4 (Gt 72)) (St 73)<|Ze (u1 (Zt 0) (Gt 73)) (St 74)<|Xw 7 [0,1,2,3] 1 (Gt 74) (Zl (Gt 74)) (St 75)<|Ze (u1 Z4 (Gt 75)) (St 76)<|Ze (u1 (Zt 3) (Gt 76)) (St 77)<|Xw 10 [0,1,2,3] 1 (Gt 77) (Zl (Gt 77)) (St 78)<|Ze (Zh (Gt 0)) (St 79)<|Ze (u1 Z4 (Gt 79)) (St 80)<|Ze (u1 (Zt 0) (Gt 80)) (St 81)<|Xw 14 [0,1,2,3,4,5,6,7,8,9,10] 1 (Gt 81) (Zl (Gt 81)) (St 82)<|Ze (u1 Z4 (Gt 82)) (St 83)<|Ze (u1 (Zt 2) (Gt 83)) (St 84)<|Xw 17 [0,1,2,3,4,5,6,7,8,9,10] 1 (Gt 84) (Zl (Gt 84)) (St 85)<|Ze (Za Zff .sub 3 (.tmp 78) (.tmp 85) (Gt 78) (Gt 85)) (St 86)<|Ze (VM .u64 (Gt 86)) (St 87)<|Zju 20 [] (Zw 172 [(Gt 71),(Gt 87)]) (St 88)<|Ze (Zh (Gt 88)) (St 8)<|Xg)
 (Z0 (Z1<|mM 0 89<|mN 89 90<|mF 0 90 91<|mL 91 92<|mK 85 [(Gt 92)] 93<|Z2)
 (Z0 (Z1<|mM 8 94<|mK 11 [(Gt 94)] 95<|fo (ZF 4 (Gt 4) (Gt 95)) p0<|Z2)
 Zv))) (Z0 (Z1 <| fo (mQ 106 23 5) (St 97) <| mM 97 96 <| Z2)
 (Zg (Gt 96) (Z0 (Z1<|mM 0 98<|fo (YB 8 (Gt 5)) (St 99)<|mK 174 [(Gt 98),(Gt 99)] 100<|fo (ZF 4 (Gt 4) (Gt 100)) p0<|Z2)
 Zv) (Z0 (Z1 <| fo (mQ 106 23 6) (St 102) <| mM 102 101 <| Z2)
 (Zg (Gt 101) (Z0 (Z1<|mM 0 103<|fo (YB 8 (Gt 5)) (St 104)<|mK 175 [(Gt 103),(Gt 104)] 105<|fo (ZF 4 (Gt 4) (Gt 105)) p0<|Z2)
 Zv) (Z0 (Z1 <| fo (mQ 106 23 7) (St 107) <| mM 107 106 <| Z2)
 (Zg (Gt 106) (Z0 (Z1<|mM 0 108<|fo (YB 8 (Gt 5)) (St 109)<|mK 176 [(Gt 108),(Gt 109)] 110<|fo (ZF 4 (Gt 4) (Gt 110)) p0<|Z2)
 Zv) (Z0 (Z1 <| fo (mQ 106 23 8) (St 112) <| mM 112 111 <| Z2)
 (Zg (Gt 111) (Z0 (Z1<|mM 0 113<|fo (YB 8 (Gt 5)) (St 114)<|mK 177 [(Gt 113),(Gt 114)] 115<|fo (ZF 4 (Gt 4) (Gt 115)) p0<|Z2)
 Zv) (Z0 (Z1 <| fo (mQ 106 23 9) (St 117) <| mM 117 116 <| Z2)
 (Zg (Gt 116) (Z0 (Z1<|mM 0 118<|fo (YB 8 (Gt 5)) (St 119)<|mK 178 [(Gt 118),(Gt 119)] 120<|fo (ZF 4 (Gt 4) (Gt 120)) p0<|Z2)
 Zv) (Z0 (Z1 <| fo (mQ 106 23 10) (St 122) <| mM 122 121 <| Z2)
 (Zg (Gt 121) (Z0 (Z1<|mM 0 123<|fo (YB 8 (Gt 5)) (St 124)<|mK 179 [(Gt 123),(Gt 124)] 125<|fo (ZF 4 (Gt 4) (Gt 125)) p0<|Z2)
 Zv) Zx))))))))))))))))))))))
 (Z0 (Z1<|mM 0 126<|mN 126 127<|mF 0 127 128<|mL 128 129<|mK 85 [(Gt 129)] 130<|Z2)
 (Z0 (Z1<|fo (YQ [(.int .i64 (.ofNat 0)),(.int .u64 (.ofNat 0)),(.str []),(.v (.slice none 0 0))] []) (St 131)<|fo (ZF 4 (Gt 4) (Gt 131)) p0<|Z2)
 Zv)))))
def q178 : ZV := Zbg Zf (fun t h => UP ⟨[.cN 4 4],.skip⟩ (act t) h)
 (Z0 (Z1<|fo (Zai 109 (Gt 1)) (St 3)<|fo (Zo 39 [(.int .i64 (.ofNat 0)),(.int .u64 (.ofNat 0)),(.str []),(.v (.slice none 0 0))]) (St 4)<|Z2)
 (Z0 (Z1<|mM 0 8<|mF 5 3 9<|mL 9 10<|mK 125 [(Gt 8),(Gt 10)] 11<|mM 11 5<|Z2)
 (Z0 (Z0 (Z1<|mF 7 3 12<|mL 12 13<|fo (u1 Yy (Gt 13)) (St 14)<|fo (Zh (kI 0)) (St 15)<|Z2)
 (ZA 0 (Xy (Z0 (Z1<|fo (Za WH .lss 3 (.tmp 15) (.tmp 14) (Gt 15) (Gt 14)) (St 16)<|Z2)
 (Z0 (Zg (Gt 16) Zx (Vi 0))
 (Z0 (ZA 1 (Z0 (Z1<|fo (u2 (ZZ 2) (Gt 13) (Gt 15)) (St 17)<|fo (YB 2 (Gt 17)) (St 18)<|fo (Zo 153 [(.int .u64 (.ofNat 0)),(.int .i64 (.ofNat 0))]) (St 7)<|fo (ZF 2 (Gt 7) (Gt 18)) p0<|Z2)
 (Z0 (Z1<|mF 0 7 19<|mL 19 20<|mM 5 21<|fo (Za YG .eql 36 (.tmp 20) (.tmp 21) (Gt 20) (Gt 21)) (St 22)<|Z2)
 (Zg (Gt 22) (Z0 (Z1<|mM 0 23<|mF 1 7 24<|mL 24 25<|mK 123 [(Gt 23),(Gt 25)] 26<|fo (ZF 4 (Gt 4) (Gt 26)) p0<|Z2)
 Zv) Zx))))
 (Z1<|fo (Za YS .add 3 (.tmp 15) (.const (.int .i64 (.ofNat 1))) (Gt 15) (kI 1)) (St 27)<|mM 27 15<|Z2)))))))
 (Z0 (Z0 (Z1<|mF 6 3 28<|mL 28 29<|fo (Za WH .lss 3 (.tmp 29) (.const (.int .i64 (.ofNat 0))) (Gt 29) (kI 0)) (St 30)<|Z2)
 (Zg (Gt 30) (Z1<|mM 0 31<|mN 31 32<|mF 0 32 33<|mL 33 34<|mK 57 [(Gt 34),(kI 24)] 35<|Z2) Zx))
 (Z0 (Z1<|mM 0 36<|mF 6 3 37<|mL 37 38<|mK 123 [(Gt 36),(Gt 38)] 39<|fo (ZF 4 (Gt 4) (Gt 39)) p0<|Z2)
 Zv)))))
def Zx5 (x : XC) (c : List D) : Prop := c = [.int .u64 (.ofNat x.n),.int .i64 (.ofNat x.ty)]
def XTR (x : XT') (c : List D) : Prop := ∃ dk,c = [.int .i64 (.ofNat x.k),.int .i64 (.ofNat x.size),.v (.bool x.lit),.str x.nm,.v (.slice none 0 0),.int .i64 x.ex,.int .i64 x.inn,dk] ∧ Zaj Zx5 2 dk x.cs
def XIR (x : XI) (c : List D) : Prop := c = [.str x.nm,.int .i64 (.ofNat x.ty),.int .i64 (.ofNat x.der),.str x.a,.str x.b,.int .i64 x.wh,.int .i64 (.ofNat 0),.v (.bool false),.v (.slice none 0 0)]
def XSR (x : XS) (c : List D) : Prop := ∃ di,c = [.str x.nm,.v (.slice none 0 0),di] ∧ Zaj XIR 9 di x.is
structure RT (E : Env) (T : Nat → ZV) (F : XF) (ds de dt : D) : Prop where
  et : ET E T F.es de
  h57 : T 57 = q57
  h85 : T 85 = q85
  h172 : T 172 = q172
  h125 : T 125 = q125
  h121 : T 121 = q121
  h171 : T 171 = q171
  h78 : T 78 = Z0k
  h111 : T 111 = Zj9
  h159 : T 159 = Zjg
  h122 : T 122 = q122
  h11 : T 11 = q11
  h229 : T 229 = q229
  h16 : T 16 = q16
  h123 : T 123 = q123
  h178 : T 178 = q178
  h227 : T 227 = YK Zdu
  rowS : Zaj XSR 3 ds F.ss
  rowT : Zaj XTR 8 dt F.ts
  lenE : F.es.length ≤ 1000000
  ints : ∀ t ∈ F.ts,t.k = 0 → Zax t.size
abbrev Y3 (ds de dt : D) : D := .ep [.v (.slice none 0 0),ds,de,dt]
def KQ (x : RO V) (fp : D) (inp : List Nat) (pr e0 : Nat) (h : H) (Q : D → H → Prop) (R : ZM) : Prop :=
  match x with
  | .ok v p n => ∀ h' a b c d,Rep v [a,b,c,d] → h.next ≤ h'.next → FRr h h' pr → hget h'.mem pr = some (RC fp inp p e0 n) → Q (.agg [a,b,c,d]) h'
  | .err p e => ∀ h',h.next ≤ h'.next → FRr h h' pr → R (Zhb p e) h'
  | .oof => False
theorem ZT {v : V} {a b c d : D} (h : Rep v [a,b,c,d]) : a.one = true ∧ b.one = true ∧ c.one = true ∧ d.one = true := by
  have := h.one
  simpa only [Y4,Bool.and_eq_true,and_true] using this
section
variable {F : XF} {crc : Zm3} {ds de dt : D} {inp : List Nat} {pr ps p e0 n : Nat} {env : Ev} {fp : D}
theorem YI {v : V} : KQ (.ok v p n) fp inp pr e0 h Q R ↔ ∀ h' a b c d,Rep v [a,b,c,d] → h.next ≤ h'.next → (∀ x,x < h.next → x ≠ pr → hget h'.mem x = hget h.mem x) → hget h'.mem pr = some (RC fp inp p e0 n) → Q (.agg [a,b,c,d]) h' := Iff.rfl
theorem ZK {e : Nat} : KQ (.err p e) fp inp pr e0 h Q R ↔ ∀ h',h.next ≤ h'.next → (∀ x,x < h.next → x ≠ pr → hget h'.mem x = hget h.mem x) → R (Zhb p e) h' := Iff.rfl
structure At_ (inp : List Nat) (pr ps p e0 n : Nat) (env : Ev) (fp : D) (h : H) : Prop where
  r : hget h.mem pr = some (RC fp inp p e0 n)
  s : hget h.mem ps = some (Zhf pr env)
  np : pr < h.next
  ns : ps < h.next
  ne : ps ≠ pr
  hp : p ≤ e0
  he : e0 ≤ inp.length
  hn : n ≤ 1048576
  hl : env.length ≤ 1000
def VK (E : Env) (T : Nat → ZV) (inp : List Nat) (ds de dt : D) (kind : Nat → Ev → Nat → Nat → Nat → RO V) : Prop := ∀ {a : Nat} {env : Ev} {p e0 n pr ps : Nat} {h : H} {Q : D → H → Prop} {R : ZM},At_ inp pr ps p e0 n env (Y3 ds de dt) h → KQ (kind a env p e0 n) (Y3 ds de dt) inp pr e0 h Q R → VC E T 123 [.ptr ps 0,.int .i64 (.ofNat a)] h Q R
theorem Zut (hT : RT E T F ds de dt) (hn : n ≤ 1048576) (hr : hget h.mem pr = some (RC (Y3 ds de dt) inp p e0 n)) (h1 : 1048576 ≤ n → R (Zhb p 10) h) (h2 : n < 1048576 → Q (.tup []) (YF h pr (RC (Y3 ds de dt) inp p e0 (n + 1)))) : VC E T 85 [.ptr pr 0] h Q R := vc85 hT.h57 hT.h85 hn hr rfl h1 h2
theorem Zba (hT : RT E T F ds de dt) {a : Nat} {t : XT'} (hx : F.ts[a]? = some t) : ∃ c r,XTR t c ∧ c.length = 8 ∧ ∀ (kk : IntKind) (h : H),Zci 8 dt (.int kk (.ofNat a)) h = .ok (.ep (c ++ r)) h := Zcg hT.rowT (by decide) hx
theorem kind_2 (hT : RT E T F ds de dt) {a : Nat} {size : Nat} {lit : Bool} {nm : List Nat} {ex inn : Int} {cs : List XC} (hx : F.ts[a]? = some ⟨2,size,lit,nm,ex,inn,cs⟩) (at_ : At_ inp pr ps p e0 n env (Y3 ds de dt) h) {x : RO V} (hq : KQ x (Y3 ds de dt) inp pr e0 h Q R)
    (hsub : ∀ {dk : D} {h : H} {Q : D → H → Prop} {R : ZM},Zaj Zx5 2 dk cs → At_ inp pr ps p e0 n env (Y3 ds de dt) h → KQ x (Y3 ds de dt) inp pr e0 h Q R → VC E T 173 [.ptr ps 0,.agg [.int .i64 (.ofNat 2),.int .i64 (.ofNat size),.v (.bool lit),.str nm,.v (.slice none 0 0),.int .i64 ex,.int .i64 inn,dk]] h Q R) : VC E T 123 [.ptr ps 0,.int .i64 (.ofNat a)] h Q R := by
  obtain ⟨c,r,hc,hz,hix⟩ := Zba hT hx
  obtain ⟨dk,rfl,hk⟩ := hc
  have hdc := Zm hk
  have hdo := Zs hk
  have htc := Zm hT.rowT
  have hto := Zs hT.rowT
  have hKD := hT.h123
  obtain ⟨hr,hs,np,ns,ne,hp,he,hn,hl⟩ := at_
  have hS : ∀ {h : H} {Q : D → H → Prop} {R : ZM},hget h.mem pr = some (RC (Y3 ds de dt) inp p e0 n) → hget h.mem ps = some (Zhf pr env) → pr < h.next → ps < h.next → KQ x (Y3 ds de dt) inp pr e0 h Q R → VC E T 173 [.ptr ps 0,.agg [.int .i64 (.ofNat 2),.int .i64 (.ofNat size),.v (.bool lit),.str nm,.v (.slice none 0 0),.int .i64 ex,.int .i64 inn,dk]] h Q R := fun a1 a2 a3 a4 a5 => hsub hk ⟨a1,a2,a3,a4,ne,hp,he,hn,hl⟩ a5
  clear hsub hk hT hx hz
  cases x with
  | oof => exact hq.elim
  | ok v p' n' =>
    rw [YI] at hq
    refine Zd hKD ?_
    unfold Zf
    repeat' (with_reducible (first | refine zc ?_ | refine hS ?_ ?_ ?_ ?_ ?_ | simp (maxSteps := 2000000) (disch := first | exact zd | fail) only [go_sem, -Int.reduceOfNat, *,YI] | (refine zb ?_ ?_ <;> intro _) | (show Q _ _; refine hq _ _ _ _ _ hrep ?_ ?_ ?_) | (rintro h1 a b c d hrep n1 f1 m1; obtain ⟨oa,ob,oc,od⟩ := ZT hrep) | exact ze | (intro _; intros) | (refine ⟨_,by assumption, ?_⟩) | refine And.intro ?_ ?_))
  | err p' e' =>
    rw [ZK] at hq
    refine Zd hKD ?_
    unfold Zf
    exact Zgn
theorem kind_3 (hT : RT E T F ds de dt) {a : Nat} {size : Nat} {lit : Bool} {nm : List Nat} {ex inn : Int} {cs : List XC} (hx : F.ts[a]? = some ⟨3,size,lit,nm,ex,inn,cs⟩) (at_ : At_ inp pr ps p e0 n env (Y3 ds de dt) h) {x : RO V} (hq : KQ x (Y3 ds de dt) inp pr e0 h Q R)
    (hsub : ∀ {dk : D} {h : H} {Q : D → H → Prop} {R : ZM},Zaj Zx5 2 dk cs → At_ inp pr ps p e0 n env (Y3 ds de dt) h → KQ x (Y3 ds de dt) inp pr e0 h Q R → VC E T 173 [.ptr ps 0,.agg [.int .i64 (.ofNat 3),.int .i64 (.ofNat size),.v (.bool lit),.str nm,.v (.slice none 0 0),.int .i64 ex,.int .i64 inn,dk]] h Q R) : VC E T 123 [.ptr ps 0,.int .i64 (.ofNat a)] h Q R := by
  obtain ⟨c,r,hc,hz,hix⟩ := Zba hT hx
  obtain ⟨dk,rfl,hk⟩ := hc
  have hdc := Zm hk
  have hdo := Zs hk
  have htc := Zm hT.rowT
  have hto := Zs hT.rowT
  have hKD := hT.h123
  obtain ⟨hr,hs,np,ns,ne,hp,he,hn,hl⟩ := at_
  have hS : ∀ {h : H} {Q : D → H → Prop} {R : ZM},hget h.mem pr = some (RC (Y3 ds de dt) inp p e0 n) → hget h.mem ps = some (Zhf pr env) → pr < h.next → ps < h.next → KQ x (Y3 ds de dt) inp pr e0 h Q R → VC E T 173 [.ptr ps 0,.agg [.int .i64 (.ofNat 3),.int .i64 (.ofNat size),.v (.bool lit),.str nm,.v (.slice none 0 0),.int .i64 ex,.int .i64 inn,dk]] h Q R := fun a1 a2 a3 a4 a5 => hsub hk ⟨a1,a2,a3,a4,ne,hp,he,hn,hl⟩ a5
  clear hsub hk hT hx hz
  cases x with
  | oof => exact hq.elim
  | ok v p' n' =>
    rw [YI] at hq
    refine Zd hKD ?_
    unfold Zf
    repeat' (with_reducible (first | refine zc ?_ | refine hS ?_ ?_ ?_ ?_ ?_ | simp (maxSteps := 2000000) (disch := first | exact zd | fail) only [go_sem, -Int.reduceOfNat, *,YI] | (refine zb ?_ ?_ <;> intro _) | (show Q _ _; refine hq _ _ _ _ _ hrep ?_ ?_ ?_) | (rintro h1 a b c d hrep n1 f1 m1; obtain ⟨oa,ob,oc,od⟩ := ZT hrep) | exact ze | (intro _; intros) | (refine ⟨_,by assumption, ?_⟩) | refine And.intro ?_ ?_))
  | err p' e' =>
    rw [ZK] at hq
    refine Zd hKD ?_
    unfold Zf
    exact Zgn
theorem kind_5 (hT : RT E T F ds de dt) {a : Nat} {size : Nat} {lit : Bool} {nm : List Nat} {ex inn : Int} {cs : List XC} (hx : F.ts[a]? = some ⟨5,size,lit,nm,ex,inn,cs⟩) (at_ : At_ inp pr ps p e0 n env (Y3 ds de dt) h) {x : RO V} (hq : KQ x (Y3 ds de dt) inp pr e0 h Q R)
    (hsub : ∀ {dk : D} {h : H} {Q : D → H → Prop} {R : ZM},Zaj Zx5 2 dk cs → At_ inp pr ps p e0 n env (Y3 ds de dt) h → KQ x (Y3 ds de dt) inp pr e0 h Q R → VC E T 174 [.ptr ps 0,.agg [.int .i64 (.ofNat 5),.int .i64 (.ofNat size),.v (.bool lit),.str nm,.v (.slice none 0 0),.int .i64 ex,.int .i64 inn,dk]] h Q R) : VC E T 123 [.ptr ps 0,.int .i64 (.ofNat a)] h Q R := by
  obtain ⟨c,r,hc,hz,hix⟩ := Zba hT hx
  obtain ⟨dk,rfl,hk⟩ := hc
  have hdc := Zm hk
  have hdo := Zs hk
  have htc := Zm hT.rowT
  have hto := Zs hT.rowT
  have hKD := hT.h123
  obtain ⟨hr,hs,np,ns,ne,hp,he,hn,hl⟩ := at_
  have hS : ∀ {h : H} {Q : D → H → Prop} {R : ZM},hget h.mem pr = some (RC (Y3 ds de dt) inp p e0 n) → hget h.mem ps = some (Zhf pr env) → pr < h.next → ps < h.next → KQ x (Y3 ds de dt) inp pr e0 h Q R → VC E T 174 [.ptr ps 0,.agg [.int .i64 (.ofNat 5),.int .i64 (.ofNat size),.v (.bool lit),.str nm,.v (.slice none 0 0),.int .i64 ex,.int .i64 inn,dk]] h Q R := fun a1 a2 a3 a4 a5 => hsub hk ⟨a1,a2,a3,a4,ne,hp,he,hn,hl⟩ a5
  clear hsub hk hT hx hz
  cases x with
  | oof => exact hq.elim
  | ok v p' n' =>
    rw [YI] at hq
    refine Zd hKD ?_
    unfold Zf
    repeat' (with_reducible (first | refine zc ?_ | refine hS ?_ ?_ ?_ ?_ ?_ | simp (maxSteps := 2000000) (disch := first | exact zd | fail) only [go_sem, -Int.reduceOfNat, *,YI] | (refine zb ?_ ?_ <;> intro _) | (show Q _ _; refine hq _ _ _ _ _ hrep ?_ ?_ ?_) | (rintro h1 a b c d hrep n1 f1 m1; obtain ⟨oa,ob,oc,od⟩ := ZT hrep) | exact ze | (intro _; intros) | (refine ⟨_,by assumption, ?_⟩) | refine And.intro ?_ ?_))
  | err p' e' =>
    rw [ZK] at hq
    refine Zd hKD ?_
    unfold Zf
    exact Zgn
theorem kind_6 (hT : RT E T F ds de dt) {a : Nat} {size : Nat} {lit : Bool} {nm : List Nat} {ex inn : Int} {cs : List XC} (hx : F.ts[a]? = some ⟨6,size,lit,nm,ex,inn,cs⟩) (at_ : At_ inp pr ps p e0 n env (Y3 ds de dt) h) {x : RO V} (hq : KQ x (Y3 ds de dt) inp pr e0 h Q R)
    (hsub : ∀ {dk : D} {h : H} {Q : D → H → Prop} {R : ZM},Zaj Zx5 2 dk cs → At_ inp pr ps p e0 n env (Y3 ds de dt) h → KQ x (Y3 ds de dt) inp pr e0 h Q R → VC E T 175 [.ptr ps 0,.agg [.int .i64 (.ofNat 6),.int .i64 (.ofNat size),.v (.bool lit),.str nm,.v (.slice none 0 0),.int .i64 ex,.int .i64 inn,dk]] h Q R) : VC E T 123 [.ptr ps 0,.int .i64 (.ofNat a)] h Q R := by
  obtain ⟨c,r,hc,hz,hix⟩ := Zba hT hx
  obtain ⟨dk,rfl,hk⟩ := hc
  have hdc := Zm hk
  have hdo := Zs hk
  have htc := Zm hT.rowT
  have hto := Zs hT.rowT
  have hKD := hT.h123
  obtain ⟨hr,hs,np,ns,ne,hp,he,hn,hl⟩ := at_
  have hS : ∀ {h : H} {Q : D → H → Prop} {R : ZM},hget h.mem pr = some (RC (Y3 ds de dt) inp p e0 n) → hget h.mem ps = some (Zhf pr env) → pr < h.next → ps < h.next → KQ x (Y3 ds de dt) inp pr e0 h Q R → VC E T 175 [.ptr ps 0,.agg [.int .i64 (.ofNat 6),.int .i64 (.ofNat size),.v (.bool lit),.str nm,.v (.slice none 0 0),.int .i64 ex,.int .i64 inn,dk]] h Q R := fun a1 a2 a3 a4 a5 => hsub hk ⟨a1,a2,a3,a4,ne,hp,he,hn,hl⟩ a5
  clear hsub hk hT hx hz
  cases x with
  | oof => exact hq.elim
  | ok v p' n' =>
    rw [YI] at hq
    refine Zd hKD ?_
    unfold Zf
    repeat' (with_reducible (first | refine zc ?_ | refine hS ?_ ?_ ?_ ?_ ?_ | simp (maxSteps := 2000000) (disch := first | exact zd | fail) only [go_sem, -Int.reduceOfNat, *,YI] | (refine zb ?_ ?_ <;> intro _) | (show Q _ _; refine hq _ _ _ _ _ hrep ?_ ?_ ?_) | (rintro h1 a b c d hrep n1 f1 m1; obtain ⟨oa,ob,oc,od⟩ := ZT hrep) | exact ze | (intro _; intros) | (refine ⟨_,by assumption, ?_⟩) | refine And.intro ?_ ?_))
  | err p' e' =>
    rw [ZK] at hq
    refine Zd hKD ?_
    unfold Zf
    exact Zgn
theorem kind_8 (hT : RT E T F ds de dt) {a : Nat} {size : Nat} {lit : Bool} {nm : List Nat} {ex inn : Int} {cs : List XC} (hx : F.ts[a]? = some ⟨8,size,lit,nm,ex,inn,cs⟩) (at_ : At_ inp pr ps p e0 n env (Y3 ds de dt) h) {x : RO V} (hq : KQ x (Y3 ds de dt) inp pr e0 h Q R)
    (hsub : ∀ {dk : D} {h : H} {Q : D → H → Prop} {R : ZM},Zaj Zx5 2 dk cs → At_ inp pr ps p e0 n env (Y3 ds de dt) h → KQ x (Y3 ds de dt) inp pr e0 h Q R → VC E T 177 [.ptr ps 0,.agg [.int .i64 (.ofNat 8),.int .i64 (.ofNat size),.v (.bool lit),.str nm,.v (.slice none 0 0),.int .i64 ex,.int .i64 inn,dk]] h Q R) : VC E T 123 [.ptr ps 0,.int .i64 (.ofNat a)] h Q R := by
  obtain ⟨c,r,hc,hz,hix⟩ := Zba hT hx
  obtain ⟨dk,rfl,hk⟩ := hc
  have hdc := Zm hk
  have hdo := Zs hk
  have htc := Zm hT.rowT
  have hto := Zs hT.rowT
  have hKD := hT.h123
  obtain ⟨hr,hs,np,ns,ne,hp,he,hn,hl⟩ := at_
  have hS : ∀ {h : H} {Q : D → H → Prop} {R : ZM},hget h.mem pr = some (RC (Y3 ds de dt) inp p e0 n) → hget h.mem ps = some (Zhf pr env) → pr < h.next → ps < h.next → KQ x (Y3 ds de dt) inp pr e0 h Q R → VC E T 177 [.ptr ps 0,.agg [.int .i64 (.ofNat 8),.int .i64 (.ofNat size),.v (.bool lit),.str nm,.v (.slice none 0 0),.int .i64 ex,.int .i64 inn,dk]] h Q R := fun a1 a2 a3 a4 a5 => hsub hk ⟨a1,a2,a3,a4,ne,hp,he,hn,hl⟩ a5
  clear hsub hk hT hx hz
  cases x with
  | oof => exact hq.elim
  | ok v p' n' =>
    rw [YI] at hq
    refine Zd hKD ?_
    unfold Zf
    repeat' (with_reducible (first | refine zc ?_ | refine hS ?_ ?_ ?_ ?_ ?_ | simp (maxSteps := 2000000) (disch := first | exact zd | fail) only [go_sem, -Int.reduceOfNat, *,YI] | (refine zb ?_ ?_ <;> intro _) | (show Q _ _; refine hq _ _ _ _ _ hrep ?_ ?_ ?_) | (rintro h1 a b c d hrep n1 f1 m1; obtain ⟨oa,ob,oc,od⟩ := ZT hrep) | exact ze | (intro _; intros) | (refine ⟨_,by assumption, ?_⟩) | refine And.intro ?_ ?_))
  | err p' e' =>
    rw [ZK] at hq
    refine Zd hKD ?_
    unfold Zf
    exact Zgn
theorem kind_9 (hT : RT E T F ds de dt) {a : Nat} {size : Nat} {lit : Bool} {nm : List Nat} {ex inn : Int} {cs : List XC} (hx : F.ts[a]? = some ⟨9,size,lit,nm,ex,inn,cs⟩) (at_ : At_ inp pr ps p e0 n env (Y3 ds de dt) h) {x : RO V} (hq : KQ x (Y3 ds de dt) inp pr e0 h Q R)
    (hsub : ∀ {dk : D} {h : H} {Q : D → H → Prop} {R : ZM},Zaj Zx5 2 dk cs → At_ inp pr ps p e0 n env (Y3 ds de dt) h → KQ x (Y3 ds de dt) inp pr e0 h Q R → VC E T 178 [.ptr ps 0,.agg [.int .i64 (.ofNat 9),.int .i64 (.ofNat size),.v (.bool lit),.str nm,.v (.slice none 0 0),.int .i64 ex,.int .i64 inn,dk]] h Q R) : VC E T 123 [.ptr ps 0,.int .i64 (.ofNat a)] h Q R := by
  obtain ⟨c,r,hc,hz,hix⟩ := Zba hT hx
  obtain ⟨dk,rfl,hk⟩ := hc
  have hdc := Zm hk
  have hdo := Zs hk
  have htc := Zm hT.rowT
  have hto := Zs hT.rowT
  have hKD := hT.h123
  obtain ⟨hr,hs,np,ns,ne,hp,he,hn,hl⟩ := at_
  have hS : ∀ {h : H} {Q : D → H → Prop} {R : ZM},hget h.mem pr = some (RC (Y3 ds de dt) inp p e0 n) → hget h.mem ps = some (Zhf pr env) → pr < h.next → ps < h.next → KQ x (Y3 ds de dt) inp pr e0 h Q R → VC E T 178 [.ptr ps 0,.agg [.int .i64 (.ofNat 9),.int .i64 (.ofNat size),.v (.bool lit),.str nm,.v (.slice none 0 0),.int .i64 ex,.int .i64 inn,dk]] h Q R := fun a1 a2 a3 a4 a5 => hsub hk ⟨a1,a2,a3,a4,ne,hp,he,hn,hl⟩ a5
  clear hsub hk hT hx hz
  cases x with
  | oof => exact hq.elim
  | ok v p' n' =>
    rw [YI] at hq
    refine Zd hKD ?_
    unfold Zf
    repeat' (with_reducible (first | refine zc ?_ | refine hS ?_ ?_ ?_ ?_ ?_ | simp (maxSteps := 2000000) (disch := first | exact zd | fail) only [go_sem, -Int.reduceOfNat, *,YI] | (refine zb ?_ ?_ <;> intro _) | (show Q _ _; refine hq _ _ _ _ _ hrep ?_ ?_ ?_) | (rintro h1 a b c d hrep n1 f1 m1; obtain ⟨oa,ob,oc,od⟩ := ZT hrep) | exact ze | (intro _; intros) | (refine ⟨_,by assumption, ?_⟩) | refine And.intro ?_ ?_))
  | err p' e' =>
    rw [ZK] at hq
    refine Zd hKD ?_
    unfold Zf
    exact Zgn
theorem Z77 (hT : RT E T F ds de dt) {a : Nat} {size : Nat} {lit : Bool} {nm : List Nat} {ex inn : Int} {cs : List XC} (hx : F.ts[a]? = some ⟨10,size,lit,nm,ex,inn,cs⟩) (at_ : At_ inp pr ps p e0 n env (Y3 ds de dt) h) {x : RO V} (hq : KQ x (Y3 ds de dt) inp pr e0 h Q R)
    (hsub : ∀ {dk : D} {h : H} {Q : D → H → Prop} {R : ZM},Zaj Zx5 2 dk cs → At_ inp pr ps p e0 n env (Y3 ds de dt) h → KQ x (Y3 ds de dt) inp pr e0 h Q R → VC E T 179 [.ptr ps 0,.agg [.int .i64 (.ofNat 10),.int .i64 (.ofNat size),.v (.bool lit),.str nm,.v (.slice none 0 0),.int .i64 ex,.int .i64 inn,dk]] h Q R) : VC E T 123 [.ptr ps 0,.int .i64 (.ofNat a)] h Q R := by
  obtain ⟨c,r,hc,hz,hix⟩ := Zba hT hx
  obtain ⟨dk,rfl,hk⟩ := hc
  have hdc := Zm hk
  have hdo := Zs hk
  have htc := Zm hT.rowT
  have hto := Zs hT.rowT
  have hKD := hT.h123
  obtain ⟨hr,hs,np,ns,ne,hp,he,hn,hl⟩ := at_
  have hS : ∀ {h : H} {Q : D → H → Prop} {R : ZM},hget h.mem pr = some (RC (Y3 ds de dt) inp p e0 n) → hget h.mem ps = some (Zhf pr env) → pr < h.next → ps < h.next → KQ x (Y3 ds de dt) inp pr e0 h Q R → VC E T 179 [.ptr ps 0,.agg [.int .i64 (.ofNat 10),.int .i64 (.ofNat size),.v (.bool lit),.str nm,.v (.slice none 0 0),.int .i64 ex,.int .i64 inn,dk]] h Q R := fun a1 a2 a3 a4 a5 => hsub hk ⟨a1,a2,a3,a4,ne,hp,he,hn,hl⟩ a5
  clear hsub hk hT hx hz
  cases x with
  | oof => exact hq.elim
  | ok v p' n' =>
    rw [YI] at hq
    refine Zd hKD ?_
    unfold Zf
    repeat' (with_reducible (first | refine zc ?_ | refine hS ?_ ?_ ?_ ?_ ?_ | simp (maxSteps := 2000000) (disch := first | exact zd | fail) only [go_sem, -Int.reduceOfNat, *,YI] | (refine zb ?_ ?_ <;> intro _) | (show Q _ _; refine hq _ _ _ _ _ hrep ?_ ?_ ?_) | (rintro h1 a b c d hrep n1 f1 m1; obtain ⟨oa,ob,oc,od⟩ := ZT hrep) | exact ze | (intro _; intros) | (refine ⟨_,by assumption, ?_⟩) | refine And.intro ?_ ?_))
  | err p' e' =>
    rw [ZK] at hq
    refine Zd hKD ?_
    unfold Zf
    exact Zgn
end
end Run
end
end Go.Abs
