/- A record: walks of the program. -/
import Derived.Test.YthifolidfjpdkaaGreatDoorReM
import Derived.Test.YthifolidfjpdkaaGreatDoorReI
set_option linter.unusedVariables false
set_option linter.unusedSimpArgs false
namespace Go.Abs
noncomputable section
namespace Run
variable {E : Env} {T : Nat → ZV}
set_option maxHeartbeats 4000000
set_option maxRecDepth 100000
attribute [local go_sem] Zc2 Ud Zc3 Ub Uj Ua Ug Zc1 Uf Ue Zc0 XJ Ul XG Uh WM XH Ym WN UY Un WL Ui Uk Um WO YN WQ Zam Wq Wp Uc Vw Vx Zc5 Zc6 Uo Ut Ur XL XK Yn Uq Up Zc4 WR Uv Us Uu WS Zar Zap Zas Zao Vz Zaq VA Zat Vy VB Zc7 Zau Zc9 Uw Zc8 Zir Zis Zip Ziq Zes Zet UG UF UH UJ UI UK Zdh Zdg V7 V8 V6 Zda VI VJ VH V4 UA XU V1 V3 XV XW UD UC UB XR YX Wg Uy Zdd Zez Zps X0 YZ VE Za8 XX V0 Y0 ZH X2 Ys WI patch Yq Yr YW YV Wc Wb Xj Xk XD V9 Wa X3 Yv YY XY Xt X1 Yp ZN Yt mem_cons Zdf Zdc YT Option.map_some Option.map_none V5 Wx Wz Wy Za9 VG Ww VF YO YP X9 X4 Xa Wd X5 X8 X6 Yw X7 WX XP WZ WU Uz WV WY WW XQ XO YG Wo WH Zgx Zcp Zcy Zbp Zdj Zq7 Xi Xz Va WB Yo YU Yu Y1 ZU YH ZW Xm List.drop_succ_cons List.drop_zero List.drop_nil List.take_succ_cons List.take_zero List.take_nil List.length_cons List.length_nil List.length_append List.cons_append List.nil_append Nat.reduceAdd Nat.reduceEqDiff Nat.reduceLeDiff Nat.reduceLT List.cons.injEq reduceCtorEq eq_self not_true_eq_false not_false_eq_true and_false false_and true_or or_true decide_true decide_false Bool.and_self Bool.and_true Bool.true_and Bool.true_or Bool.or_true Bool.false_or Bool.or_false Bool.false_and Bool.and_false Bool.not_true Bool.not_false cond_true cond_false true_and and_true Zah Zde Zdi reduceIte Nat.add_zero Nat.zero_add Nat.add_sub_cancel Nat.reduceMul Nat.reduceSub Nat.reduceBEq List.map_cons List.map_nil Z8 Z7 Y2 Zi Zb Z9 Ws Zeu Wk ZY ZL Wu Wt XN XM and_assoc exists_and_left D.str.injEq Nat.lt_irrefl Nat.not_lt_zero true_implies false_implies implies_true forall_const ge_iff_le gt_iff_lt Nat.sub_zero List.append_assoc Option.some.injEq AObj.cells.injEq D.int.injEq D.ptr.injEq Int.ofNat.injEq exists_eq_left' D.v.injEq Value.bool.injEq D.agg.injEq Nat.mul_one
section
variable {h : H} {Q : D → H → Prop} {R : ZM}
section
variable {F : XF} {crc : Zm3} {ds de dt : D} {inp : List Nat} {pr ps p e0 n : Nat} {env : Ev} {fp : D} {kind : Nat → Ev → Nat → Nat → Nat → RO V}
def q65 : ZV := Zbg Zf (fun t h => .ok (Gt 2 t) h)
 (Z0 (Z1<|fo (Zh (kD (.v (.slice none 0 0)))) (St 2)<|Z2)
 (Z0 (Z0 (Z1<|mM 0 6<|fo (Za YG .eql 23 (.tmp 6) (.const (.pointer none)) (Gt 6) (kD (.v (.pointer none)))) (St 7)<|Z2)
 (Zg (Gt 7) (Z0 (Z1<|fo (Zh (kD (.v (.slice none 0 0)))) (St 2)<|Z2)
 Zv) Zx))
 (Z0 (Z1<|fo (Zh (kD (.v (.slice none 0 0)))) (St 3)<|Z2)
 (Z0 (Z0 (Z1<|mM 0 8<|mN 8 9<|mF 0 9 10<|mL 10 11<|fo (u1 Yy (Gt 11)) (St 12)<|fo (Zh (kI 0)) (St 13)<|Z2)
 (ZA 0 (Xy (Z0 (Z1<|fo (Za WH .lss 3 (.tmp 13) (.tmp 12) (Gt 13) (Gt 12)) (St 14)<|Z2)
 (Z0 (Zg (Gt 14) Zx (Vi 0))
 (Z0 (ZA 1 (Z0 (Z1<|fo (u2 (ZZ 2) (Gt 11) (Gt 13)) (St 15)<|fo (YB 2 (Gt 15)) (St 16)<|fo (Zo 131 [(.str []),(.int .u64 (.ofNat 0))]) (St 5)<|fo (ZF 2 (Gt 5) (Gt 16)) p0<|Z2)
 (Z1<|mM 3 17<|mF 0 5 18<|mL 18 19<|mF 1 5 20<|mL 20 21<|fo (YQ [(.str []),(.int .u64 (.ofNat 0))] [(0,1,(Gt 19)),(1,1,(Gt 21))]) (St 22)<|fo (Xu 217 1 [(.str []),(.int .u64 (.ofNat 0))] [(0,2,(Gt 22))]) (St 23)<|fo (u2 (Zbo 217 2 24) (Gt 17) (Gt 23)) (St 24)<|mM 24 3<|Z2)))
 (Z1<|fo (Za YS .add 3 (.tmp 13) (.const (.int .i64 (.ofNat 1))) (Gt 13) (kI 1)) (St 25)<|mM 25 13<|Z2)))))))
 (Z0 (Z1<|mM 3 26<|mM 26 2<|Z2)
 Zv)))))
def q55 : ZV := Zbg Zf (fun t h => UP ⟨[.cN 6 4],.skip⟩ (act t) h)
 (Z0 (Z1<|fo (Zai 100 (Gt 1)) (St 4)<|fo (Zo 39 [(.int .i64 (.ofNat 0)),(.int .u64 (.ofNat 0)),(.str []),(.v (.slice none 0 0))]) (St 6)<|Z2)
 (Z0 (Z1<|mM 0 18<|mK 85 [(Gt 18)] 19<|Z2)
 (Z0 (Z1<|mM 0 20<|mM 0 21<|mN 21 22<|mF 0 22 23<|mL 23 24<|mK 65 [(Gt 24)] 25<|fo (YQ [(.v (.pointer none)),(.v (.slice none 0 0))] [(0,1,(Gt 20)),(1,1,(Gt 25))]) (St 26)<|fo (Zai 190 (Gt 26)) (St 27)<|mM 27 7<|Z2)
 (Z0 (Z0 (Z1<|mF 1 4 28<|mL 28 29<|fo (u1 Yy (Gt 29)) (St 30)<|fo (Zh (kI 0)) (St 31)<|Z2)
 (ZA 0 (Xy (Z0 (Z1<|fo (Za WH .lss 3 (.tmp 31) (.tmp 30) (Gt 31) (Gt 30)) (St 32)<|Z2)
 (Z0 (Zg (Gt 32) Zx (Vi 0))
 (Z0 (ZA 1 (Z0 (Z1<|mM 31 33<|fo (u2 (ZZ 1) (Gt 29) (Gt 31)) (St 34)<|mL 34 35<|mM 33 8<|mM 35 9<|Z2)
 (Xf<|Ze (Zh (Gt 7)) (St 36)<|Ze (Zh (Gt 7)) (St 37)<|Ze (u1 Z4 (Gt 37)) (St 38)<|Ze (u1 (Zt 1) (Gt 38)) (St 39)<|Xw 4 [0] 1 (Gt 39) (Zl (Gt 39)) (St 40)<|Ze (Zh (Gt 9)) (St 41)<|Ze (Zh (Gt 2)) (St 42)<|Ze (Zh (Gt 8)) (St 43)<|Ze (u2 (ZZ 1) (Gt 42) (Gt 43)) (St 44)<|Xw 9 [0,1,2,3,4,5] 1 (Gt 44) (Zl (Gt 44)) (St 45)<|Zju 10 [0] (Zw 86 [(Gt 40),(Gt 41),(Gt 45)]) (St 46)<|Ze (u1 Z4 (Gt 36)) (St 47)<|Ze (u1 (Zt 1) (Gt 47)) (St 48)<|Zg8 13 [] (ZF 1 (Gt 48) (Gt 46)) p0<|Xg)))
 (Z1<|fo (Za YS .add 3 (.tmp 31) (.const (.int .i64 (.ofNat 1))) (Gt 31) (kI 1)) (St 49)<|mM 49 31<|Z2)))))))
 (Z0 (Z1<|fo (Zo7) (St 50)<|mM 50 10<|Z2)
 (Z0 (Z1<|fo (Zh (kD (.v (.slice none 0 0)))) (St 11)<|Z2)
 (Z0 (Z0 (Z1<|mF 2 4 51<|mL 51 52<|fo (u1 Yy (Gt 52)) (St 53)<|fo (Zh (kI 0)) (St 54)<|Z2)
 (ZA 2 (Xy (Z0 (Z1<|fo (Za WH .lss 3 (.tmp 54) (.tmp 53) (Gt 54) (Gt 53)) (St 55)<|Z2)
 (Z0 (Zg (Gt 55) Zx (Vi 2))
 (Z0 (ZA 3 (Z0 (Z1<|fo (u2 (ZZ 9) (Gt 52) (Gt 54)) (St 56)<|fo (YB 9 (Gt 56)) (St 57)<|fo (Zo 104 [(.str []),(.int .i64 (.ofNat 0)),(.int .i64 (.ofNat 0)),(.str []),(.str []),(.int .i64 (.ofNat 0)),(.int .i64 (.ofNat 0)),(.v (.bool false)),(.v (.slice none 0 0))]) (St 13)<|fo (ZF 9 (Gt 13) (Gt 57)) p0<|Z2)
 (Z0 (Z1<|mF 8 13 58<|mL 58 59<|fo (u1 Yy (Gt 59)) (St 60)<|fo (Za Zcp .gtr 3 (.tmp 60) (.const (.int .i64 (.ofNat 0))) (Gt 60) (kI 0)) (St 61)<|Z2)
 (Zg (Gt 61) (Z1<|mM 11 62<|mM 7 63<|fo (YB 9 (Gt 13)) (St 64)<|mK 87 [(Gt 63),(Gt 64)] 65<|fo (u2 (Zbo 39 4 56) (Gt 62) (Gt 65)) (St 66)<|mM 66 11<|Z2) (Z1<|mM 11 67<|mM 7 68<|fo (YB 9 (Gt 13)) (St 69)<|mM 10 70<|mK 88 [(Gt 68),(Gt 69),(Gt 70)] 71<|fo (Xu 39 1 [(.int .i64 (.ofNat 0)),(.int .u64 (.ofNat 0)),(.str []),(.v (.slice none 0 0))] [(0,4,(Gt 71))]) (St 72)<|fo (u2 (Zbo 39 4 56) (Gt 67) (Gt 72)) (St 73)<|mM 73 11<|Z2)))))
 (Z1<|fo (Za YS .add 3 (.tmp 54) (.const (.int .i64 (.ofNat 1))) (Gt 54) (kI 1)) (St 74)<|mM 74 54<|Z2)))))))
 (Z0 (Z0 (Z1<|mF 2 4 75<|mL 75 76<|fo (u1 Yy (Gt 76)) (St 77)<|fo (Zh (kI 0)) (St 78)<|Z2)
 (ZA 4 (Xy (Z0 (Z1<|fo (Za WH .lss 3 (.tmp 78) (.tmp 77) (Gt 78) (Gt 77)) (St 79)<|Z2)
 (Z0 (Zg (Gt 79) Zx (Vi 4))
 (Z0 (ZA 5 (Z0 (Z1<|fo (u2 (ZZ 9) (Gt 76) (Gt 78)) (St 80)<|fo (YB 9 (Gt 80)) (St 81)<|fo (Zo 104 [(.str []),(.int .i64 (.ofNat 0)),(.int .i64 (.ofNat 0)),(.str []),(.str []),(.int .i64 (.ofNat 0)),(.int .i64 (.ofNat 0)),(.v (.bool false)),(.v (.slice none 0 0))]) (St 15)<|fo (ZF 9 (Gt 15) (Gt 81)) p0<|Z2)
 (Z0 (Xf<|Ze (Zh (Gt 10)) (St 82)<|Ze (u1 (Zt 0) (Gt 15)) (St 83)<|Xw 2 [0] 1 (Gt 83) (Zl (Gt 83)) (St 84)<|Ze (u2 (fun x k => Ze9 1 (.agg [(.int .i64 (.ofNat 0)),(.int .i64 (.ofNat 0)),(.int .i64 (.ofNat 0)),(.int .u64 (.ofNat 0)),(.str []),(.v (.slice none 0 0))]) x k false) (Gt 82) (Gt 84)) (St 85)<|Ze (Zh (Gt 10)) (St 86)<|Ze (u1 (Zt 3) (Gt 15)) (St 87)<|Xw 6 [0,1,2,3,4] 1 (Gt 87) (Zl (Gt 87)) (St 88)<|Ze (u2 (fun x k => Ze9 1 (.agg [(.int .i64 (.ofNat 0)),(.int .i64 (.ofNat 0)),(.int .i64 (.ofNat 0)),(.int .u64 (.ofNat 0)),(.str []),(.v (.slice none 0 0))]) x k false) (Gt 86) (Gt 88)) (St 89)<|Ze (Zo 196 [(.int .i64 (.ofNat 0)),(.int .i64 (.ofNat 0)),(.int .i64 (.ofNat 0)),(.int .u64 (.ofNat 0)),(.str []),(.v (.slice none 0 0))]) (St 16)<|Ze (Zo 196 [(.int .i64 (.ofNat 0)),(.int .i64 (.ofNat 0)),(.int .i64 (.ofNat 0)),(.int .u64 (.ofNat 0)),(.str []),(.v (.slice none 0 0))]) (St 17)<|Zg8 10 [4,5,6,7] (ZF 6 (Gt 16) (Gt 85)) p0<|Zg8 11 [] (ZF 6 (Gt 17) (Gt 89)) p0<|Xg)
 (Z0 (Z1<|mF 2 15 90<|mL 90 91<|Z2)
 (ZA 6 (Z0 (Z1<|fo (mQ 101 91 1) (St 93)<|mM 93 92<|Z2)
 (Zg (Gt 92) (Z1<|mM 7 94<|mF 2 16 95<|mF 1 95 96<|mL 96 97<|mF 1 17 98<|mL 98 99<|mF 0 17 100<|mL 100 101<|fo (Za Zff .sub 3 (.tmp 99) (.tmp 101) (Gt 99) (Gt 101)) (St 102)<|fo (VM .u64 (Gt 102)) (St 103)<|fo (Za YG .eql 36 (.tmp 97) (.tmp 103) (Gt 97) (Gt 103)) (St 104)<|fo (YB 6 (Gt 16)) (St 105)<|mK 89 [(Gt 94),(Gt 104),(Gt 105),(kI 9)] 106<|Z2) (Z0 (Z1<|fo (mQ 101 91 2) (St 108)<|mM 108 107<|Z2)
 (Zg (Gt 107) (Z1<|mM 7 109<|mF 2 16 110<|mF 1 110 111<|mL 111 112<|mF 2 17 113<|mF 3 113 114<|mL 114 115<|fo (u1 Yy (Gt 115)) (St 116)<|fo (VM .u64 (Gt 116)) (St 117)<|fo (Za YG .eql 36 (.tmp 112) (.tmp 117) (Gt 112) (Gt 117)) (St 118)<|fo (YB 6 (Gt 16)) (St 119)<|mK 89 [(Gt 109),(Gt 118),(Gt 119),(kI 9)] 120<|Z2) Zx)))))))))
 (Z1<|fo (Za YS .add 3 (.tmp 78) (.const (.int .i64 (.ofNat 1))) (Gt 78) (kI 1)) (St 121)<|mM 121 78<|Z2)))))))
 (Z0 (Z1<|mM 11 122<|mK 16 [(Gt 122)] 123<|fo (ZF 4 (Gt 6) (Gt 123)) p0<|Z2)
 Zv)))))))))
theorem vc65 (h65 : T 65 = q65) (nl : ∀ cs h ox oy,Zha E YG .eql 23 ox oy (.ep cs) (.v (.pointer none)) h = .ok (.v (.bool false)) h) (hq : Q (.v (.slice none 0 0)) h) : VC E T 65 [Y3 ds de dt] h Q R := by
  refine Zd h65 ?_
  unfold Zf
  repeat' (with_reducible (first | refine zc ?_ | (refine Znk ?_ ?_ ?_; (focus (simp only [go_sem, -Int.reduceOfNat]; done)); (focus (simp only [go_sem, -Int.reduceOfNat]; done))) | simp (maxSteps := 2000000) (disch := first | exact zd | fail) only [go_sem, -Int.reduceOfNat, *] | (refine zb ?_ ?_ <;> intro _ <;> (try (exfalso; omega))) | (show Q _ _; exact hq) | exact ze | (intro _; intros) | (refine ⟨_,by assumption, ?_⟩) | refine And.intro ?_ ?_))
theorem Zxo {y : XI} {env : Ev} {al : Al} {v : V} {env2 : Ev} {al2 : Al} {q m : Nat} (h : UL F crc inp kind y e0 env al p n = .ok (v,env2,al2) q m) : env2.length ≤ env.length + 1 := by
  unfold UL at h
  split at h
  · cases h
  cases hv : kind y.ty env p e0 n with
  | oof => rw [hv] at h; cases h
  | err a b => rw [hv] at h; cases h
  | ok v' q' m' =>
    rw [hv] at h
    simp only [RO.bind] at h
    have hl : (if Zg6 F y.ty = true then env ++ [(y.nm,v'.n)] else env).length ≤ env.length + 1 := by split <;> simp
    generalize (if Zg6 F y.ty = true then env ++ [(y.nm,v'.n)] else env) = env' at h hl
    split at h
    · split at h
      · split at h
        · split at h
          · split at h
            · split at h
              · cases h
              · cases h; exact hl
            · cases h
          · cases h; exact hl
        · cases h
      · cases h
    · split at h
      · split at h
        · split at h
          · split at h
            · cases h
            · cases h; exact hl
          · cases h
        · cases h; exact hl
      · cases h
theorem Z2a {h h' : H} {ty : TypeId} {d : D} {n b pr : Nat} (ht : Tp h ty d n) (hf : Fr d (b + 4)) (hb : pr < b) (hn : h.next ≤ h'.next) (hx : ∀ x,x < h.next → x ≠ pr → x ≠ b + 2 → x ≠ b + 3 → hget h'.mem x = hget h.mem x) : Tp h' ty d n := ht.mono hn fun l hl h2 => hx l h2 (by have := hf l hl; omega) (by have := hf l hl; omega) (by have := hf l hl; omega)
theorem Z19 {h h' : H} {ty : TypeId} {d : D} {n b pr : Nat} {o o' : AObj} (ht : Tp h ty d n) (hf : Fr d (b + 4)) (hb : pr < b) (hn : h.next + 1 ≤ h'.next) (hx : ∀ x,x < h.next + 1 → x ≠ pr → x ≠ b + 2 → x ≠ b + 3 → hget h'.mem x = hget (YF (Vr h o) h.next o').mem x) : Tp h' ty d n := Z2a ht hf hb (by omega) fun x h1 h2 h3 h4 => by
  rw [hx x (by omega) h2 h3 h4,Z9 (by omega),Zi (by omega)]
theorem Zkz {y : XI} {al : Al} {r : List XI} : Zbm al (y :: r) = (if (y.der = 1 ∧ (WJ y.nm al).2.2.n ≠ (WJ y.a al).2.1 - (WJ y.a al).1) ∨ (y.der = 2 ∧ (WJ y.nm al).2.2.n ≠ (WJ y.a al).2.2.l.length) then some (WJ y.nm al).1 else Zbm al r) := rfl
theorem Zz1 {y : XI} {al : Al} {r : List XI} (h : y.der = 0) : Zbm al (y :: r) = Zbm al r := by
  rw [Zkz,if_neg]
  rintro (⟨c,_⟩ | ⟨c,_⟩) <;> omega
theorem Z6p {y : XI} {al : Al} {r : List XI} (h : y.der = 1) (he : (WJ y.nm al).2.2.n = (WJ y.a al).2.1 - (WJ y.a al).1) : Zbm al (y :: r) = Zbm al r := by
  rw [Zkz,if_neg]
  rintro (⟨_,c⟩ | ⟨c,_⟩)
  · exact c he
  · omega
theorem Z2d {y : XI} {al : Al} {r : List XI} (h : y.der = 1) (he : ¬ (WJ y.nm al).2.2.n = (WJ y.a al).2.1 - (WJ y.a al).1) : Zbm al (y :: r) = some (WJ y.nm al).1 := by
  rw [Zkz,if_pos (.inl ⟨h,he⟩)]
theorem Z9i : Zwc [] [] := rfl
theorem Z53 {L : Nat} : Ziw L [] := fun _ h => by cases h
def ItOk (F : XF) (y : XI) : Prop := y.der ≤ 1 ∧ (y.wh = .negSucc 0 ∨ ∃ a,y.wh = .ofNat a) ∧ ∃ t,F.ts[y.ty]? = some t
abbrev IF1 (h : H) (pr : Nat) (fp : D) (inp : List Nat) (e0 : Nat) (sc : List D) (di : D) (n1 : Nat) (fs : List XI → Ev → Al → List V → Nat → Nat → RO (List V × Al)) (is : List XI) (X : RO (List V × Al)) (m : Nat) (t1 : Tr D) (h1 : H) : Prop :=
  h.next + 4 ≤ h1.next ∧ (∀ x,x < h.next → x ≠ pr → hget h1.mem x = hget h.mem x) ∧ hget h1.mem h.next = some (.cells 100 sc) ∧ hget h1.mem (h.next + 1) = some (.cells 39 [.int .i64 (.ofNat 0),.int .u64 (.ofNat 0),.str [],.v (.slice none 0 0)]) ∧ Gt 0 t1 = .ptr pr 0 ∧ Gt 4 t1 = .ptr h.next 0 ∧ Gt 6 t1 = .ptr (h.next + 1) 0 ∧ Gt 7 t1 = .ptr (h.next + 2) 0 ∧ Gt 10 t1 = .map (h.next + 3) ∧ Gt 52 t1 = di ∧ Gt 53 t1 = .int .i64 (.ofNat n1) ∧ ∃ d,Gt 11 t1 = d ∧ ∃ j,Gt 54 t1 = .int .i64 (.ofNat j) ∧ j + m = n1 ∧ ∃ env al es out p' n',Zaj Rep 4 d out ∧ Tp h1 39 d out.length ∧ Fr d (h.next + 4) ∧ out.length = j ∧ env.length ≤ j ∧ Zwc al es ∧ hget h1.mem (h.next + 3) = some (.map es) ∧ hget h1.mem (h.next + 2) = some (Zhf pr env) ∧ hget h1.mem pr = some (RC fp inp p' e0 n') ∧ p' ≤ e0 ∧ n' ≤ 1048576 ∧ Ziw inp.length al ∧ fs (is.drop j) env al out p' n' = X
abbrev IF2 (h : H) (pr : Nat) (fp : D) (inp : List Nat) (e0 p' n' : Nat) (d : D) (sc : List D) (di : D) (n1 : Nat) (al : Al) (es : List (D × D)) (is : List XI) (Y : Option Nat) (m : Nat) (t1 : Tr D) (h1 : H) : Prop :=
  h.next + 4 ≤ h1.next ∧ (∀ x,x < h.next → x ≠ pr → hget h1.mem x = hget h.mem x) ∧ hget h1.mem h.next = some (.cells 100 sc) ∧ hget h1.mem (h.next + 1) = some (.cells 39 [.int .i64 (.ofNat 0),.int .u64 (.ofNat 0),.str [],.v (.slice none 0 0)]) ∧ Gt 4 t1 = .ptr h.next 0 ∧ Gt 6 t1 = .ptr (h.next + 1) 0 ∧ Gt 7 t1 = .ptr (h.next + 2) 0 ∧ Gt 10 t1 = .map (h.next + 3) ∧ Gt 11 t1 = d ∧ Gt 76 t1 = di ∧ Gt 77 t1 = .int .i64 (.ofNat n1) ∧ ∃ j,Gt 78 t1 = .int .i64 (.ofNat j) ∧ j + m = n1 ∧ hget h1.mem (h.next + 3) = some (.map es) ∧ hget h1.mem pr = some (RC fp inp p' e0 n') ∧ Zbm al (is.drop j) = Y
theorem vc55 (hT : RT E T F ds de dt) (h88 : T 88 = q88) (h89 : T 89 = q89) (h86 : T 86 = YK Zdt) (h65 : T 65 = q65) (h55 : T 55 = q55) (ih : VK E T inp ds de dt kind) (hke : Z11 inp kind) (hL : inp.length ≤ 1000000) {nm : List Nat} {is : List XI} (hok : ∀ y ∈ is,ItOk F y) (hil : is.length ≤ 500) {di : D} (hk : Zaj XIR 9 di is) (hr : hget h.mem pr = some (RC (Y3 ds de dt) inp p e0 n)) (np : pr < h.next) (hp : p ≤ e0) (he : e0 ≤ inp.length) (hn : n ≤ 1048576) (hq : KQ (WT F crc inp kind ⟨nm,is⟩ p e0 n) (Y3 ds de dt) inp pr e0 h Q R) : VC E T 55 [.ptr pr 0,.agg [.str nm,.v (.slice none 0 0),di],.v (.slice none 0 0)] h Q R := by
  have hdc := Zm hk
  have hdo := Zs hk
  have hln := hk.len
  have hVR := hT.h16
  have hCO : ∀ {h : H} {Q : D → H → Prop} {R : ZM},Q (.v (.slice none 0 0)) h → VC E T 65 [Y3 ds de dt] h Q R := fun a => vc65 h65 hT.et.nl a
  unfold WT VT at hq
  by_cases hn1 : n ≥ 1048576
  · rw [if_pos hn1] at hq
    simp only [RO.bind,ZK] at hq
    have hO : Zh8 E T ds de dt inp pr e0 n := Zgm hT (show n = 1048576 by omega)
    clear hT hk
    refine Zd h55 ?_
    unfold Zf
    repeat' (with_reducible (first | refine zc ?_ | refine hO (p := p) ?_ ?_ | simp (maxSteps := 2000000) (disch := first | exact zd | fail) only [go_sem, -Int.reduceOfNat, *] | (refine zb ?_ ?_ <;> intro _ <;> (try (exfalso; omega))) | (refine hq _ ?_ ?_) | (rintro h1 n1 f1) | exact ze | (intro _; intros) | (refine ⟨_,by assumption, ?_⟩) | refine And.intro ?_ ?_))
  rw [if_neg hn1] at hq
  simp only [RO.bind] at hq
  have hO : Zmu E T ds de dt inp pr e0 n := Zji hT (show n < 1048576 by omega)
  have hFD : ∀ {y : XI} {env : Ev} {al : Al} {es : List (D × D)} {p n ps pm : Nat} {h : H} {Q : D → H → Prop} {R : ZM},ItOk F y → env.length < 500 → p ≤ e0 → n ≤ 1048576 → Zwc al es → ps ≠ pr → pm ≠ pr → pm ≠ ps → hget h.mem pr = some (RC (Y3 ds de dt) inp p e0 n) → hget h.mem ps = some (Zhf pr env) → hget h.mem pm = some (.map es) → pr < h.next → ps < h.next → pm < h.next → FQ (UL F crc inp kind y e0 env al p n) (Y3 ds de dt) inp pr ps pm e0 h Q R → VC E T 88 [.ptr ps 0,.agg (itC y),.map pm] h Q R := fun ok a1 a2 a3 a4 a5 a6 a7 b1 b2 b3 c1 c2 c3 a8 => by
    obtain ⟨o1,o2,t,o3⟩ := ok
    exact vc88 hT h88 h89 h86 ih (by omega) o2 o3 ⟨b1,b2,c1,c2,a5,a2,he,a3,by omega⟩ (by omega) b3 a4 c3 a6 a7 a8
  have hMU : ∀ {z : Bool} {ps pp qq er : Nat} {a b c d : D} {h : H} {Q : D → H → Prop} {R : ZM},a.one = true → b.one = true → c.one = true → d.one = true → (z = true → ∀ h',h.next ≤ h'.next → (∀ l,l < h.next → hget h'.mem l = hget h.mem l) → Q (.tup []) h') → (z = false → ∀ h',h.next ≤ h'.next → (∀ l,l < h.next → hget h'.mem l = hget h.mem l) → R (Zhb pp er) h') → VC E T 89 [.ptr ps 0,.v (.bool z),.agg [.int .i64 (.ofNat pp),.int .i64 (.ofNat qq),a,b,c,d],.int .i64 (.ofNat er)] h Q R := fun o1 o2 o3 o4 a1 a2 => vc89 h89 ⟨o1,o2,o3,o4⟩ a1 a2
  have hel := fun j x hx => Zcg (i := j) (x := x) hk (by decide) hx
  have hfl := fun y env al p n (h1 : p ≤ e0) (h2 : n ≤ 1048576) => Zlw (F := F) (crc := crc) hke y e0 env al p n h1 he h2
  have hfa := fun (y : XI) (env : Ev) (al : Al) (p n : Nat) (h1 : p ≤ e0) (h2 : n ≤ 1048576) (h3 : Ziw inp.length al) (x : V × Ev × Al) (q m : Nat) (h4 : UL F crc inp kind y e0 env al p n = .ok x q m) => Zre (F := F) (crc := crc) hke h1 he h2 h3 h4
  clear hT ih hk hke
  generalize hX : Yh F crc inp kind e0 is [] [] [] p (n + 1) = X at hq
  have hn2 : n + 1 ≤ 1048576 := by omega
  refine Zd h55 ?_
  unfold Zf
  repeat' (with_reducible (first | refine zc ?_ | refine hO (p := p) ?_ ?_ | refine hCO ?_ | (refine Znk ?_ ?_ ?_; (focus (simp only [go_sem, -Int.reduceOfNat]; done)); (focus (simp only [go_sem, -Int.reduceOfNat]; done))) | simp (maxSteps := 2000000) (disch := first | assumption | (show Zfq _ _; exact VL (by assumption) (by omega)) | omega | (simp only [Z8,Z7,List.length_cons,List.length_nil,List.length_append,List.length_take,List.length_drop]; omega) | fail) only [go_sem, -Int.reduceOfNat, *,List.drop_zero,Zs3] | (refine zb ?_ ?_ <;> intro _ <;> (try (exfalso; omega))) | (refine Vp (IF1 h pr (Y3 ds de dt) inp e0 [.str nm,.v (.slice none 0 0),di] di is.length (Yh F crc inp kind e0) is X) (n := is.length) ?_ ?_) | (rintro h1 n1 f1) | (refine ⟨[],[],[],[],Zaj.nil,Tp.nil,Zxl,by simp,by simp,Z9i,by simp,by simp,Z53,hX⟩) | exact ze | (intro _; intros) | (refine ⟨_,by assumption, ?_⟩) | refine And.intro ?_ ?_))
  all_goals
    clear hO hX
    rintro m t1 h1 ⟨gn,gf,m3,m4,g0,g4,g6,g7,g10,g52,g53,d,g11,j,g54,gj,env,al,es,out,p',n',sl,tp,fr,ol,ev,ar,mm,ms,mr,hp',hn',ao,gX⟩
    by_cases hlt : j < is.length
    · obtain ⟨y,hy⟩ : ∃ y,is[j]? = some y := ⟨_,List.getElem?_eq_getElem hlt⟩
      obtain ⟨c,r,hc,hz,hix⟩ := hel j y hy
      unfold XIR at hc
      subst hc
      have hd : is.drop j = y :: is.drop (j + 1) := by rw [List.drop_eq_getElem_cons hlt]; rw [List.getElem?_eq_getElem hlt] at hy; rw [Option.some.inj hy]
      have hoy := hok y (List.mem_of_getElem? hy)
      rw [hd,Yh] at gX
      have hle := hfl y env al p' n' hp' hn'
      cases hXX : UL F crc inp kind y e0 env al p' n' with
      | oof => rw [hXX] at gX; simp only [RO.bind] at gX; rw [← gX] at hq; exact hq.elim
      | err a2 b2 =>
        rw [hXX] at gX
        simp only [RO.bind] at gX
        rw [← gX] at hq
        simp only [ZK] at hq
        clear gX hle hfl hfa hel hz hd hy
        repeat' (with_reducible (first | refine zc ?_ | refine hFD (env := env) (al := al) (es := es) (p := p') (n := n') (pm := h.next + 3) hoy (by omega) hp' hn' ar ?_ ?_ ?_ ?_ ?_ ?_ ?_ ?_ ?_ ?_ | simp (maxSteps := 2000000) (disch := first | assumption | (show Zfq _ _; exact VL (by assumption) (by omega)) | omega | (simp only [Z8,Z7,List.length_cons,List.length_nil,List.length_append,List.length_take,List.length_drop]; omega) | fail) only [go_sem, -Int.reduceOfNat, *,hXX,Ztd] | (refine zb ?_ ?_ <;> intro _ <;> (try (exfalso; omega))) | (refine hq _ ?_ ?_) | (rintro h2 n2 f2) | exact ze | (intro _; intros) | (refine ⟨_,by assumption, ?_⟩) | refine And.intro ?_ ?_))
      | ok x p2 n2 =>
        obtain ⟨v,env2,al2⟩ := x
        have ao2 := hfa y env al p' n' hp' hn' ao _ _ _ hXX
        have evl : env2.length ≤ env.length + 1 := Zxo hXX
        rw [hXX] at gX hle
        simp only [RO.bind] at gX
        obtain ⟨hle1,hle2,hle3⟩ := hle
        clear hq hfl hfa hel hz hd hy
        repeat' (with_reducible (first | refine zc ?_ | refine hFD (env := env) (al := al) (es := es) (p := p') (n := n') (pm := h.next + 3) hoy (by omega) hp' hn' ar ?_ ?_ ?_ ?_ ?_ ?_ ?_ ?_ ?_ ?_ | refine Zry (F := Rep) (xs := out) (x := v) sl (Zr0 tp2) hrep hrep.four (by omega) on2 (by omega) (by omega) ?_ | simp (maxSteps := 2000000) (disch := first | assumption | (show Zfq _ _; exact VL (by assumption) (by omega)) | omega | (simp only [Z8,Z7,List.length_cons,List.length_nil,List.length_append,List.length_take,List.length_drop]; omega) | fail) only [go_sem, -Int.reduceOfNat, *,hXX,Zwb] | (refine zb ?_ ?_ <;> intro _ <;> (try (exfalso; omega))) | (refine ⟨env2,al2,es2,out ++ [v], ?_⟩) | (refine ⟨m - 1,by omega, ?_⟩) | (rintro h2 a b c d2 es2 hrep nn ff mr2 ms2 mm2 ar2; obtain ⟨oa,ob,oc,od⟩ := ZT hrep; have tp2 := Z19 tp fr np nn ff; have on2 := hrep.one) | (rintro id2 cs2 h3 sl2 tp3 nn3 bn3 ff3 if3; have fr3 := Zne if3 fr (by omega)) | exact ze | (intro _; intros) | (refine ⟨_,by assumption, ?_⟩) | refine And.intro ?_ ?_))
    · obtain rfl : j = is.length := by omega
      rw [List.drop_length,Yh] at gX
      rw [← gX] at hq
      simp only [] at hq
      have hdc2 := Zm sl
      have hdo2 := Zs sl
      clear gX hfl hfa hFD
      generalize hY : Zbm al is = Y at hq
      repeat' (with_reducible (first | refine zc ?_ | simp (maxSteps := 2000000) (disch := first | assumption | (show Zfq _ _; exact VL (by assumption) (by omega)) | omega | (simp only [Z8,Z7,List.length_cons,List.length_nil,List.length_append,List.length_take,List.length_drop]; omega) | fail) only [go_sem, -Int.reduceOfNat, *,List.drop_zero] | (refine zb ?_ ?_ <;> intro _ <;> (try (exfalso; omega))) | (refine Vp (IF2 h pr (Y3 ds de dt) inp e0 p' n' d [.str nm,.v (.slice none 0 0),di] di is.length al es is Y) (n := is.length) ?_ ?_) | exact ze | (intro _; intros) | (refine ⟨_,by assumption, ?_⟩) | refine And.intro ?_ ?_))
      all_goals
        clear hY
        rintro m t2 h2 ⟨kn,kf,mk3,mk4,k4,k6,k7,k10,k11,k76,k77,j,k78,kj,mkm,mkr,kY⟩
        by_cases hlt : j < is.length
        · obtain ⟨y,hy⟩ : ∃ y,is[j]? = some y := ⟨_,List.getElem?_eq_getElem hlt⟩
          obtain ⟨c,r,hc,hz,hix⟩ := hel j y hy
          unfold XIR at hc
          subst hc
          have hd : is.drop j = y :: is.drop (j + 1) := by rw [List.drop_eq_getElem_cons hlt]; rw [List.getElem?_eq_getElem hlt] at hy; rw [Option.some.inj hy]
          have hoy := (hok y (List.mem_of_getElem? hy)).1
          rw [hd] at kY
          have tsk := Zz1 (y := y) (al := al) (r := is.drop (j + 1))
          have tok := Z6p (y := y) (al := al) (r := is.drop (j + 1))
          have tbd := Z2d (y := y) (al := al) (r := is.drop (j + 1))
          generalize Zbm al (y :: is.drop (j + 1)) = TT at kY tsk tok tbd
          obtain ⟨a1,b1,c1,d1,rp1,lk1⟩ := Zwc.look (s := y.nm) ar
          obtain ⟨a2,b2,c2,d2,rp2,lk2⟩ := Zwc.look (s := y.a) ar
          have ag1 := Ziw.get (s := y.nm) ao
          have ag2 := Ziw.get (s := y.a) ao
          clear hel hz hd hy
          obtain ⟨o1,o2,o3,o4⟩ := ZT rp1
          obtain ⟨u1,u2,u3,u4⟩ := ZT rp2
          generalize WJ y.nm al = O1 at *
          generalize WJ y.a al = O2 at *
          obtain ⟨f1,t1',⟨vk,vn,vb,vl⟩⟩ := O1
          obtain ⟨f2,t2',V2⟩ := O2
          obtain ⟨L1,hcc,_,hsl1⟩ := rp1.inv
          simp only [List.cons.injEq,and_true] at hcc
          obtain ⟨rfl,rfl,rfl,rfl⟩ := hcc
          have sd1 := Zcf hsl1
          simp only [V.n] at ag1 ag2 lk1 lk2 tok tbd
          by_cases d1 : y.der = 1
          · by_cases ev1 : vn = t2' - f2
            · rw [tok d1 ev1] at kY
              clear tsk tok tbd
              clear hq
              repeat' (with_reducible (first | refine zc ?_ | refine hMU ?_ ?_ ?_ ?_ ?_ ?_ | simp (maxSteps := 2000000) (disch := first | assumption | (show Zfq _ _; exact VL (by assumption) (by omega)) | omega | (simp only [Z8,Z7,List.length_cons,List.length_nil,List.length_append,List.length_take,List.length_drop]; omega) | fail) only [go_sem, -Int.reduceOfNat, *,d1,ev1,Znl,Zlq,ZW,Wj,decide_true] | (refine zb ?_ ?_ <;> intro _ <;> (try (exfalso; omega))) | (exfalso; omega) | (refine ⟨m - 1,by omega, ?_⟩) | (intro uu) | exact ze | (intro _; intros) | (refine ⟨_,by assumption, ?_⟩) | refine And.intro ?_ ?_))
            · rw [tbd d1 ev1] at kY
              clear tsk tok tbd
              rw [← kY] at hq
              simp only [ZK] at hq
              repeat' (with_reducible (first | refine zc ?_ | refine hMU ?_ ?_ ?_ ?_ ?_ ?_ | simp (maxSteps := 2000000) (disch := first | assumption | (show Zfq _ _; exact VL (by assumption) (by omega)) | omega | (simp only [Z8,Z7,List.length_cons,List.length_nil,List.length_append,List.length_take,List.length_drop]; omega) | fail) only [go_sem, -Int.reduceOfNat, *,d1,ev1,Znl,Zlq,ZW,Wj,decide_false] | (refine zb ?_ ?_ <;> intro _ <;> (try (exfalso; omega))) | (exfalso; omega) | (refine hq _ ?_ ?_) | (intro uu) | exact ze | (intro _; intros) | (refine ⟨_,by assumption, ?_⟩) | refine And.intro ?_ ?_))
          · have d0 : y.der = 0 := by omega
            rw [tsk d0] at kY
            clear tsk tok tbd
            clear hq hMU
            repeat' (with_reducible (first | refine zc ?_ | simp (maxSteps := 2000000) (disch := first | assumption | (show Zfq _ _; exact VL (by assumption) (by omega)) | omega | (simp only [Z8,Z7,List.length_cons,List.length_nil,List.length_append,List.length_take,List.length_drop]; omega) | fail) only [go_sem, -Int.reduceOfNat, *,d0,Znl,Zlq] | (refine zb ?_ ?_ <;> intro _ <;> (try (exfalso; omega))) | (refine ⟨m - 1,by omega, ?_⟩) | exact ze | (intro _; intros) | (refine ⟨_,by assumption, ?_⟩) | refine And.intro ?_ ?_))
        · obtain rfl : j = is.length := by omega
          rw [List.drop_length,Zbm] at kY
          rw [← kY] at hq
          simp only [YI] at hq
          clear hel hMU
          repeat' (with_reducible (first | refine zc ?_ | refine vc16 hVR hdc2 hdo2 ?_ | simp (maxSteps := 2000000) (disch := first | assumption | (show Zfq _ _; exact VL (by assumption) (by omega)) | omega | (simp only [Z8,Z7,List.length_cons,List.length_nil,List.length_append,List.length_take,List.length_drop]; omega) | fail) only [go_sem, -Int.reduceOfNat, *] | (refine zb ?_ ?_ <;> intro _ <;> (try (exfalso; omega))) | (show Q _ _; refine hq _ _ _ _ _ (Zuh (by omega) sl) ?_ ?_ ?_) | (rintro h3 n3 f3) | exact ze | (intro _; intros) | (refine ⟨_,by assumption, ?_⟩) | refine And.intro ?_ ?_))
end
end
section
variable {h : H} {Q : D → H → Prop} {R : ZM}
section
variable {F : XF} {crc : Zm3} {ds de dt : D} {inp : List Nat} {pr ps p e0 n : Nat} {env : Ev} {fp : D} {kind : Nat → Ev → Nat → Nat → Nat → RO V}
def q179 : ZV := Zbg Zf (fun t h => UP ⟨[.cN 4 4],.skip⟩ (act t) h)
 (Z0 (Z1<|fo (Zai 109 (Gt 1)) (St 3)<|fo (Zo 39 [(.int .i64 (.ofNat 0)),(.int .u64 (.ofNat 0)),(.str []),(.v (.slice none 0 0))]) (St 4)<|Z2)
 (Z0 (Z1<|fo (Zh (kD (.v (.slice none 0 0)))) (St 5)<|Z2)
 (Z0 (Z0 (Z1<|mF 4 3 10<|mL 10 11<|fo (u1 Yy (Gt 11)) (St 12)<|fo (Zh (kI 0)) (St 13)<|Z2)
 (ZA 0 (Xy (Z0 (Z1<|fo (Za WH .lss 3 (.tmp 13) (.tmp 12) (Gt 13) (Gt 12)) (St 14)<|Z2)
 (Z0 (Zg (Gt 14) Zx (Vi 0))
 (Z0 (ZA 1 (Z0 (Z1<|fo (u2 (ZZ 1) (Gt 11) (Gt 13)) (St 15)<|mL 15 16<|mM 16 7<|Z2)
 (Z1<|mM 5 17<|mM 0 18<|mM 7 19<|mK 125 [(Gt 18),(Gt 19)] 20<|fo (Xu 36 1 [(.int .u64 (.ofNat 0))] [(0,1,(Gt 20))]) (St 21)<|fo (u2 (Zbo 36 1 8) (Gt 17) (Gt 21)) (St 22)<|mM 22 5<|Z2)))
 (Z1<|fo (Za YS .add 3 (.tmp 13) (.const (.int .i64 (.ofNat 1))) (Gt 13) (kI 1)) (St 23)<|mM 23 13<|Z2)))))))
 (Z0 (Z0 (Z1<|mM 0 24<|mN 24 25<|mF 0 25 26<|mL 26 27<|mN 27 28<|mF 0 28 29<|mL 29 30<|mN 30 31<|mF 1 31 32<|mL 32 33<|fo (u1 Yy (Gt 33)) (St 34)<|fo (Zh (kI 0)) (St 35)<|Z2)
 (ZA 2 (Xy (Z0 (Z1<|fo (Za WH .lss 3 (.tmp 35) (.tmp 34) (Gt 35) (Gt 34)) (St 36)<|Z2)
 (Z0 (Zg (Gt 36) Zx (Vi 2))
 (Z0 (ZA 3 (Z0 (Z1<|fo (u2 (ZZ 3) (Gt 33) (Gt 35)) (St 37)<|fo (YB 3 (Gt 37)) (St 38)<|fo (Zo 100 [(.str []),(.v (.slice none 0 0)),(.v (.slice none 0 0))]) (St 9)<|fo (ZF 3 (Gt 9) (Gt 38)) p0<|Z2)
 (Z0 (Z1<|mF 0 9 39<|mL 39 40<|mF 3 3 41<|mL 41 42<|fo (Za YG .eql 9 (.tmp 40) (.tmp 42) (Gt 40) (Gt 42)) (St 43)<|Z2)
 (Zg (Gt 43) (Z0 (Xf<|Ze (Zh (Gt 0)) (St 44)<|Ze (u1 Z4 (Gt 44)) (St 45)<|Ze (u1 (Zt 0) (Gt 45)) (St 46)<|Xw 3 [] 1 (Gt 46) (Zl (Gt 46)) (St 47)<|Xw 4 [0,1,2,3] 3 (Gt 9) (YB 3 (Gt 9)) (St 48)<|Ze (Zh (Gt 5)) (St 49)<|Zju 6 [] (Zw 55 [(Gt 47),(Gt 48),(Gt 49)]) (St 50)<|Zg8 7 [] (ZF 4 (Gt 4) (Gt 50)) p0<|Xg)
 Zv) Zx))))
 (Z1<|fo (Za YS .add 3 (.tmp 35) (.const (.int .i64 (.ofNat 1))) (Gt 35) (kI 1)) (St 51)<|mM 51 35<|Z2)))))))
 (Z0 (Z1<|fo (YQ [(.int .i64 (.ofNat 0)),(.int .u64 (.ofNat 0)),(.str []),(.v (.slice none 0 0))] []) (St 52)<|fo (ZF 4 (Gt 4) (Gt 52)) p0<|Z2)
 Zv)))))
abbrev IRf (h : H) (ps : Nat) (ds : D) (nm : List Nat) (tc : List D) (ss : List XS) (s : XS) (m : Nat) (t1 : Tr D) (h1 : H) : Prop :=
  h.next + 2 ≤ h1.next ∧ (∀ x,x < h.next → hget h1.mem x = hget h.mem x) ∧ hget h1.mem h.next = some (.cells 109 tc) ∧ hget h1.mem (h.next + 1) = some (.cells 39 [.int .i64 (.ofNat 0),.int .u64 (.ofNat 0),.str [],.v (.slice none 0 0)]) ∧ Gt 0 t1 = .ptr ps 0 ∧ Gt 3 t1 = .ptr h.next 0 ∧ Gt 4 t1 = .ptr (h.next + 1) 0 ∧ Gt 5 t1 = .v (.slice none 0 0) ∧ Gt 33 t1 = ds ∧ Gt 34 t1 = .int .i64 (.ofNat ss.length) ∧ ∃ j,Gt 35 t1 = .int .i64 (.ofNat j) ∧ j + m = ss.length ∧ Zkh nm (ss.drop j) = some s
theorem vc179 (hT : RT E T F ds de dt) (h179 : T 179 = q179) (hsl : F.ss.length ≤ 1000000) {size : Nat} {lit : Bool} {nm : List Nat} {ex inn : Int} {cs : List XC} {dk : D} (hk : Zaj Zx5 2 dk cs) (at_ : At_ inp pr ps p e0 n env (Y3 ds de dt) h) {s : XS} (hnm : Zkh nm F.ss = some s)
    (hrec : ∀ {di : D} {h : H} {Q : D → H → Prop} {R : ZM},s ∈ F.ss → Zaj XIR 9 di s.is → hget h.mem pr = some (RC (Y3 ds de dt) inp p e0 n) → pr < h.next → KQ (WT F crc inp kind s p e0 n) (Y3 ds de dt) inp pr e0 h Q R → VC E T 55 [.ptr pr 0,.agg [.str s.nm,.v (.slice none 0 0),di],.v (.slice none 0 0)] h Q R)
    (hq : KQ (WT F crc inp kind s p e0 n) (Y3 ds de dt) inp pr e0 h Q R) : VC E T 179 [.ptr ps 0,.agg [.int .i64 (.ofNat 10),.int .i64 (.ofNat size),.v (.bool lit),.str nm,.v (.slice none 0 0),.int .i64 ex,.int .i64 inn,dk]] h Q R := by
  have hdc := Zm hk
  have hdo := Zs hk
  have hsc := Zm hT.rowS
  have hso := Zs hT.rowS
  have hln := hT.rowS.len
  have hel := fun j x hx => Zcg (i := j) (x := x) hT.rowS (by decide) hx
  obtain ⟨hr,hs,np,ns,ne,hp,he,hn,hl⟩ := at_
  clear hT hk
  generalize WT F crc inp kind s p e0 n = X at *
  refine Zd h179 ?_
  unfold Zf
  repeat' (with_reducible (first | refine zc ?_ | (refine Znk ?_ ?_ ?_; (focus (simp only [go_sem, -Int.reduceOfNat]; done)); (focus (simp only [go_sem, -Int.reduceOfNat]; done))) | simp (maxSteps := 2000000) (disch := first | exact zd | fail) only [go_sem, -Int.reduceOfNat, *,List.drop_zero] | (refine zb ?_ ?_ <;> intro _ <;> (try (exfalso; omega))) | (refine Vp (IRf h ps ds nm [.int .i64 (.ofNat 10),.int .i64 (.ofNat size),.v (.bool lit),.str nm,.v (.slice none 0 0),.int .i64 ex,.int .i64 inn,dk] F.ss s) (n := F.ss.length) ?_ ?_) | exact ze | (intro _; intros) | (refine ⟨_,by assumption, ?_⟩) | refine And.intro ?_ ?_))
  all_goals
    clear hnm
    rintro m t1 h1 ⟨gn,gf,m3,m4,g0,g3,g4,g5,g33,g34,j,g35,gj,gc⟩
    by_cases hlt : j < F.ss.length
    · obtain ⟨x,hx⟩ : ∃ x,F.ss[j]? = some x := ⟨_,List.getElem?_eq_getElem hlt⟩
      obtain ⟨c,r,hc,hz,hix⟩ := hel j x hx
      obtain ⟨di,rfl,hdi⟩ := hc
      have hdic := Zm hdi
      have hdio := Zs hdi
      have hd : F.ss.drop j = x :: F.ss.drop (j + 1) := by rw [List.drop_eq_getElem_cons hlt]; rw [List.getElem?_eq_getElem hlt] at hx; rw [Option.some.inj hx]
      rw [hd,Zkh] at gc
      by_cases e : x.nm = nm
      · rw [if_pos e] at gc
        obtain rfl := Option.some.inj gc
        have hRC : ∀ {h : H} {Q : D → H → Prop} {R : ZM},hget h.mem pr = some (RC (Y3 ds de dt) inp p e0 n) → pr < h.next → KQ X (Y3 ds de dt) inp pr e0 h Q R → VC E T 55 [.ptr pr 0,.agg [.str nm,.v (.slice none 0 0),di],.v (.slice none 0 0)] h Q R := fun a1 a2 a3 => by
          have := hrec (List.mem_of_getElem? hx) hdi a1 a2 a3
          rw [e] at this
          exact this
        have e2 : decide (x.nm = nm) = true := decide_eq_true e
        clear hrec hel hz hx hd gc hdi
        cases X with
        | oof => exact hq.elim
        | ok v p' n' =>
          rw [YI] at hq
          repeat' (with_reducible (first | refine zc ?_ | refine hRC ?_ ?_ ?_ | simp (maxSteps := 2000000) (disch := first | exact zd | fail) only [go_sem, -Int.reduceOfNat, *,YI] | (refine zb ?_ ?_ <;> intro _ <;> (try (exfalso; omega))) | (show Q _ _; refine hq _ _ _ _ _ hrep ?_ ?_ ?_) | (rintro h1 a b c d hrep n1 f1 m1; obtain ⟨oa,ob,oc,od⟩ := ZT hrep) | exact ze | (intro _; intros) | (refine ⟨_,by assumption, ?_⟩) | refine And.intro ?_ ?_))
        | err p' e' =>
          rw [ZK] at hq
          repeat' (with_reducible (first | refine zc ?_ | refine hRC ?_ ?_ ?_ | simp (maxSteps := 2000000) (disch := first | exact zd | fail) only [go_sem, -Int.reduceOfNat, *,ZK] | (refine zb ?_ ?_ <;> intro _ <;> (try (exfalso; omega))) | (refine hq _ ?_ ?_) | (rintro h1 n1 f1) | exact ze | (intro _; intros) | (refine ⟨_,by assumption, ?_⟩) | refine And.intro ?_ ?_))
      · rw [if_neg e] at gc
        clear hrec hq hel hz hx hd hdi
        repeat' (with_reducible (first | refine zc ?_ | simp (maxSteps := 2000000) (disch := first | exact zd | fail) only [go_sem, -Int.reduceOfNat, *] | (refine zb ?_ ?_ <;> intro _ <;> (try (exfalso; omega))) | (refine ⟨m - 1,by omega, ?_⟩) | exact ze | (intro _; intros) | (refine ⟨_,by assumption, ?_⟩) | refine And.intro ?_ ?_))
    · rw [List.drop_eq_nil_of_le (by omega),Zkh] at gc
      cases gc
end
end
section
variable {h : H} {Q : D → H → Prop} {R : ZM}
structure TyOk (F : XF) (t : XT') : Prop where
  k : t.k = 0 ∨ t.k = 1 ∨ t.k = 2 ∨ t.k = 3 ∨ t.k = 5 ∨ t.k = 6 ∨ t.k = 8 ∨ t.k = 9 ∨ t.k = 10 ∨ t.k = 11
  ex : t.k = 1 ∨ t.k = 2 ∨ t.k = 3 ∨ t.k = 5 ∨ t.k = 8 ∨ t.k = 9 → ∃ i,t.ex = .ofNat i
  inn : t.k = 5 ∨ t.k = 6 ∨ t.k = 8 → ∃ w,t.inn = .ofNat w
  cs : t.cs.length ≤ 1000000
  nm : t.k = 10 → ∃ s,Zkh t.nm F.ss = some s
structure FOk (F : XF) : Prop where
  ty : ∀ t ∈ F.ts,TyOk F t
  it : ∀ s ∈ F.ss,s.is.length ≤ 500 ∧ ∀ y ∈ s.is,ItOk F y
  ss : F.ss.length ≤ 1000000
structure RT2 (E : Env) (T : Nat → ZV) : Prop where
  h177 : T 177 = q177
  h173 : T 173 = q173
  h174 : T 174 = q174
  h175 : T 175 = q175
  h179 : T 179 = q179
  h88 : T 88 = q88
  h89 : T 89 = q89
  h65 : T 65 = q65
  h55 : T 55 = q55
  h86 : T 86 = YK Zdt
  h228 : T 228 = YK Zcj
section
variable {F : XF} {crc : Zm3} {ds de dt : D} {inp : List Nat} {pr ps p e0 n : Nat} {env : Ev} {fp : D} {kind : Nat → Ev → Nat → Nat → Nat → RO V}
theorem vcRec (hT : RT E T F ds de dt) (h2 : RT2 E T) (ih : VK E T inp ds de dt kind) (hke : Z11 inp kind) (hF : FOk F) (hL : inp.length ≤ 1000000) {s : XS} (hs : s ∈ F.ss) {di : D} (hk : Zaj XIR 9 di s.is) (hr : hget h.mem pr = some (RC (Y3 ds de dt) inp p e0 n)) (np : pr < h.next) (hp : p ≤ e0) (he : e0 ≤ inp.length) (hn : n ≤ 1048576) (hq : KQ (WT F crc inp kind s p e0 n) (Y3 ds de dt) inp pr e0 h Q R) : VC E T 55 [.ptr pr 0,.agg [.str s.nm,.v (.slice none 0 0),di],.v (.slice none 0 0)] h Q R := by
  obtain ⟨h1,h3⟩ := hF.it s hs
  obtain ⟨nm,is⟩ := s
  exact vc55 hT h2.h88 h2.h89 h2.h86 h2.h65 h2.h55 ih hke hL h3 h1 hk hr np hp he hn hq
theorem vcKind (hT : RT E T F ds de dt) (h2 : RT2 E T) (hF : FOk F) (hb : ∀ b ∈ inp,b < 256) (hL : inp.length ≤ 1000000) : ∀ f,VK E T inp ds de dt (Yi F crc inp f) := by
  intro f
  induction f with
  | zero => intro a env p e0 n pr ps h Q R at_ hq; exact hq.elim
  | succ f ih =>
    intro a env p e0 n pr ps h Q R at_ hq
    have hke := Zox (F := F) (crc := crc) (inp := inp) f
    have hL2 : inp.length ≤ 1048576 := by omega
    have hq : KQ (Zck F crc inp f (Yi F crc inp f) a env p e0 n) (Y3 ds de dt) inp pr e0 h Q R := hq
    generalize Yi F crc inp f = kind at ih hke hq
    cases hx : F.ts[a]? with
    | none => unfold Zck at hq; rw [hx] at hq; exact hq.elim
    | some t =>
    have ok := hF.ty t (List.mem_of_getElem? hx)
    obtain ⟨k,size,lit,nm,ex,inn,cs⟩ := t
    obtain ⟨o1,o2,o3,o4,o5⟩ := ok
    simp only at o1 o2 o3 o4 o5
    unfold Zck at hq
    rw [hx] at hq
    rcases o1 with rfl | rfl | rfl | rfl | rfl | rfl | rfl | rfl | rfl | rfl
    · exact Z4q hT hb hx rfl hL2 at_ hq
    · obtain ⟨i,rfl⟩ := o2 (by decide)
      exact Zxh hT hx rfl hL2 at_ rfl rfl hq
    · obtain ⟨i,rfl⟩ := o2 (by decide)
      refine kind_2 hT hx at_ hq fun hk a2 hq => ?_
      refine vc173 hT h2.h173 h2.h228 hL2 (.inl rfl) hk a2 rfl ?_
      have e : ∀ c : Bool,(if 2 = 3 ∨ c = true then VT Zit (p + (Zk8 F env (.ofNat i)).1) n else .oof) = (if c then VT Zit (p + (Zk8 F env (.ofNat i)).1) n else .oof) := fun c => by cases c <;> rfl
      rw [e]
      exact hq
    · obtain ⟨i,rfl⟩ := o2 (by decide)
      refine kind_3 hT hx at_ hq fun hk a2 hq => ?_
      refine vc173 hT h2.h173 h2.h228 hL2 (.inr rfl) hk a2 rfl ?_
      rw [if_pos (show 3 = 3 ∨ _ from .inl rfl)]
      exact hq
    · obtain ⟨i,rfl⟩ := o2 (by decide)
      obtain ⟨w,rfl⟩ := o3 (by decide)
      exact kind_5 hT hx at_ hq fun hk a2 hq => vc174 hT h2.h174 ih hke hL2 hk a2 rfl hq
    · obtain ⟨w,rfl⟩ := o3 (by decide)
      exact kind_6 hT hx at_ hq fun hk a2 hq => vc175 hT h2.h175 ih hke hL hk a2 hq
    · obtain ⟨i,rfl⟩ := o2 (by decide)
      obtain ⟨w,rfl⟩ := o3 (by decide)
      exact kind_8 hT hx at_ hq fun hk a2 hq => vc177 hT h2.h177 ih hL2 hk a2 rfl hq
    · obtain ⟨i,rfl⟩ := o2 (by decide)
      exact kind_9 hT hx at_ hq fun hk a2 hq => vc178 hT ih hk o4 a2 rfl hq
    · obtain ⟨s,hs⟩ := o5 rfl
      have hq : KQ (match Zkh nm F.ss with
        | some s => WT F crc inp kind s p e0 n
        | none => .oof) (Y3 ds de dt) inp pr e0 h Q R := hq
      rw [hs] at hq
      refine Z77 hT hx at_ hq fun hk a2 hq => ?_
      exact vc179 hT h2.h179 hF.ss hk a2 hs (fun hm hk hr np hq => vcRec hT h2 ih hke hF hL hm hk hr np a2.hp a2.he a2.hn hq) hq
    · exact Z03 hT hx rfl hL2 at_ hq
end
end
end Run
end
end Go.Abs
