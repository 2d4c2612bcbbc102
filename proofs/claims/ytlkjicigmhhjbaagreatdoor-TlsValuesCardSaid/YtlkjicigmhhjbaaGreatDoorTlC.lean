/- The body of a message: walks of the program. -/
import Derived.Test.YtlkjicigmhhjbaaGreatDoorTlA
set_option linter.unusedVariables false
set_option linter.unusedSimpArgs false
namespace Go.Abs
noncomputable section
namespace Run
variable {E : Env} {T : Nat → ZE}
set_option maxHeartbeats 4000000
set_option maxRecDepth 100000
theorem Zfe {G : Prop} (g : G := by
  repeat' (with_reducible (first | refine ZA ?_ | refine ZB ?_ | refine ZQ ?_ | refine ZP ?_ | refine ZD ?_ | refine Zt ?_ | refine ZC ?_ | refine ZR ?_ | refine ZO ?_ | refine ZG ?_ | refine ZS ?_ | refine Zdb h20 ?_ | refine Zdc h19 ?_ | refine Zda h25 ?_ | refine Zem h21 ?_ ?_ ?_ | refine Zen h18 ?_ ?_ ?_ | refine Z60 h20 h19 h25 h38 hr hs ?_ | refine Z6z h20 h19 h25 h39 ?_ | simp (maxSteps := 2000000) (disch := first | assumption | exact Yt (by omega) | omega | (simp only [Zm, Zl, List.length_cons, List.length_nil, List.length_append, List.length_take, List.length_drop]; omega) | fail) only [go_sem, -Int.reduceOfNat, *] | ((first | refine Yh ?_ ?_ | refine ZV ?_ ?_ | refine Yg ?_ ?_ | refine ZT ?_ ?_ | refine ZU ?_ ?_ | refine ZH ?_ ?_) <;> intro _) | (show Q _ _; refine hq _ _ _ _ _ ?_ ?_ ?_) | (refine Zct (xs := Zgt s) (ys := [Zdm]) (by assumption) (Zmx ?_ ?_) (Zp ?_ ?_) (by simp) (by simp) (by simp) (by omega) ?_) | exact Zq (by assumption) | (refine Yl ?_ (by simp) (by simp)) | (refine Zp ?_ ?_) | exact Y1 | exact ZZ | (refine ZW (by first | omega | simp) ?_) | assumption | exact trivial | (show _ < _; omega) | (show _ ≤ _; omega) | (show ¬ (_ : Nat) = _; omega) | (show (_ : Nat) ≠ _; omega) | (show (_ : Nat) = _; omega) | (intro _; intros) | (refine ⟨_, by assumption, ?_⟩) | refine And.intro ?_ ?_))) : G := g
attribute [local go_sem] Zny Zib Zn1 Zh9 Zih Zh8 Zie Znx Zid Zic Znw Zbi Zij Zbg Zif Zeg Zbh Vh Zeh Znz Zil Zef Zig Zii Zik Zei Zbf Zej Zn0 Zf5 Zf4 Zia Zjw Zjx Zn5 Zoa Zim Zir Zip Zbk Zbj Vi Zio Zin Zn2 Zek Zit Ziq Zis Zel Zn8 Zn6 Zn9 Zn4 Zjz Zn7 Zj0 Zob Zg5 Zj1 Zof Zoe Zoh Ziu Zog Zxo Zxp Zxm Zxn Zue Zuf Zjc Zjb Zjd Zjj Zji Zjk Zpw Zpv Zfc Zfd Zfb Zot Zkn Zko Zkm Ze9 Zi5 Zby Ze6 Ze7 Zbz Zb0 Zi8 Zi7 Zi6 Zbv Ux Zc1 Zi2 Zo8 Zv4 Z2a UA Uz Zkj Zpi Zb1 Ze5 WS We UD Vp U5 patch Vn Vo Uw Uv Zcg Zcf VL VM Zbe Zfk Zcb UE Vs Uy Zb2 Vm Ws Vq mem_cons Zpq Zo7 Uo Option.map_some Option.map_none Zfa Zgm Zgo Zgn Zpk Zhc Zdu Zkk Zbx Zdw UK UF UL Zch UG UJ UH Vt UI Ze2 Zbt Ze4 Zez Zi4 Ze0 Ze3 Ze1 Zbu Zbs ZX U6 Vc Zfw WW XH Zp3 Zp2 Z51 V5 Zaf Zfo Zc3 Vk Uq Vr WT Wp UN Zba Zck List.drop_succ_cons List.drop_zero List.drop_nil List.take_succ_cons List.take_zero List.take_nil List.length_cons List.length_nil List.length_append List.cons_append List.nil_append Nat.reduceAdd Nat.reduceEqDiff Nat.reduceLeDiff Nat.reduceLT List.cons.injEq reduceCtorEq eq_self not_true_eq_false not_false_eq_true and_false false_and true_or or_true decide_true decide_false Bool.and_self Bool.and_true Bool.true_and Bool.true_or Bool.or_true Bool.false_or Bool.or_false Bool.false_and Bool.and_false Bool.not_true Bool.not_false cond_true cond_false true_and and_true Zg4 Zpg Zpz reduceIte Nat.add_zero Nat.zero_add Nat.add_sub_cancel Nat.reduceMul Nat.reduceSub Nat.reduceBEq List.map_cons List.map_nil Zm Zl WV YG Xu Yn Zj2 Zzl Yv Zdq Up Zj8 Zj7 Zgc Zgb and_assoc exists_and_left D.str.injEq Nat.lt_irrefl Nat.not_lt_zero true_implies false_implies implies_true forall_const ge_iff_le gt_iff_lt Nat.sub_zero List.append_assoc Option.some.injEq AObj.cells.injEq D.int.injEq D.ptr.injEq Int.ofNat.injEq exists_eq_left' D.v.injEq Value.bool.injEq D.agg.injEq Nat.mul_one Zno Zsw Zzj Zhb Zn3 Znk
section
variable {h : H} {Q : D → H → Prop} {R : Uk}
def Zmo : ZE := Y5 YI (fun t h => YH ⟨[.cN 6 4], .skip⟩ (act t) h)
 (Z0 (Z1<|fo (Ye 31 (Gt 2)) (St 5)<|fo (Za 31 [(.int .i64 (.ofNat 0)),(.int .u64 (.ofNat 0)),(.str []),(.v (.slice none 0 0))]) (St 6)<|Z2)
 (Z0 (Zv<|Zf (Yf (Gt 1)) (St 9)<|Zf (Yf (Gt 1)) (St 10)<|Zf (u1 Va (Gt 10)) (St 11)<|Zf (Zqv .min #[3,3] 3 #[false,true] [(Gt 11),(kI 255)]) (St 12)<|Zf (XQ (Gt 9) none (some (Gt 12))) (St 13)<|Yu 5 [] (Z9 25 [(Gt 13)]) (St 14)<|Yu 6 [] (Z9 20 []) (St 15)<|Xv 7 [0,1,2,3,4,5,6] 4 (Gt 5) (Zi 4 (Gt 5)) (St 16)<|Zf (Zn 31 2 [(.int .i64 (.ofNat 0)),(.int .u64 (.ofNat 0)),(.str []),(.v (.slice none 0 0)),(.int .i64 (.ofNat 0)),(.int .u64 (.ofNat 0)),(.str []),(.v (.slice none 0 0))] [(0,4,(Gt 15)),(4,4,(Gt 16))]) (St 17)<|Yu 9 [] (Z9 18 [(Gt 17)]) (St 18)<|Zf (Za 31 [(.int .i64 (.ofNat 0)),(.int .u64 (.ofNat 0)),(.str []),(.v (.slice none 0 0))]) (St 7)<|Zf (Za 31 [(.int .i64 (.ofNat 0)),(.int .u64 (.ofNat 0)),(.str []),(.v (.slice none 0 0))]) (St 8)<|Yu 12 [] (Ze 4 (Gt 7) (Gt 14)) p0<|Yu 13 [] (Ze 4 (Gt 8) (Gt 18)) p0<|Zw)
 (Z0 (Z0 (Z1<|mM 0 19<|Z2)
 (Zc 0 (Z0 (Z1<|fo (mQ 3 19 1) (St 21)<|mM 21 20<|Z2)
 (Z7 (Gt 20) (Z0 (Zv<|Zf (Yf (Gt 1)) (St 22)<|Yu 1 [] (Z9 38 [(Gt 22)]) (St 23)<|Yu 2 [] (Z9 20 []) (St 24)<|Yu 3 [] (Z9 19 [(kD (.int .u64 (.ofNat 4865)))]) (St 25)<|Zf (Zn 31 1 [(.int .i64 (.ofNat 0)),(.int .u64 (.ofNat 0)),(.str []),(.v (.slice none 0 0))] [(0,4,(Gt 25))]) (St 26)<|Yu 5 [] (Z9 21 [(Gt 26)]) (St 27)<|Yu 6 [] (Z9 20 []) (St 28)<|Yu 7 [] (Z9 25 [(kS [0])]) (St 29)<|Yu 8 [] (Z9 20 []) (St 30)<|Xv 9 [0,1,2,3,4,5,6,7,8] 4 (Gt 5) (Zi 4 (Gt 5)) (St 31)<|Zf (Zn 31 6 [(.int .i64 (.ofNat 0)),(.int .u64 (.ofNat 0)),(.str []),(.v (.slice none 0 0)),(.int .i64 (.ofNat 0)),(.int .u64 (.ofNat 0)),(.str []),(.v (.slice none 0 0)),(.int .i64 (.ofNat 0)),(.int .u64 (.ofNat 0)),(.str []),(.v (.slice none 0 0)),(.int .i64 (.ofNat 0)),(.int .u64 (.ofNat 0)),(.str []),(.v (.slice none 0 0)),(.int .i64 (.ofNat 0)),(.int .u64 (.ofNat 0)),(.str []),(.v (.slice none 0 0)),(.int .i64 (.ofNat 0)),(.int .u64 (.ofNat 0)),(.str []),(.v (.slice none 0 0))] [(0,4,(Gt 24)),(4,4,(Gt 27)),(8,4,(Gt 28)),(12,4,(Gt 29)),(16,4,(Gt 30)),(20,4,(Gt 31))]) (St 32)<|Yu 11 [] (u2 (YE 31 4 56) (Gt 23) (Gt 32)) (St 33)<|Wi 12 [] (Z9 18 [(Gt 33)]) (St 34)<|Yu 13 [] (Ze 4 (Gt 6) (Gt 34)) p0<|Zw)
 Zb) (Z0 (Z1 <| fo (mQ 3 19 2) (St 36) <| mM 36 35 <| Z2)
 (Z7 (Gt 35) (Z0 (Zv<|Zf (Yf (Gt 1)) (St 37)<|Yu 1 [] (Z9 38 [(Gt 37)]) (St 38)<|Yu 2 [] (Z9 19 [(kD (.int .u64 (.ofNat 4865)))]) (St 39)<|Yu 3 [] (Z9 19 [(kD (.int .u64 (.ofNat 0)))]) (St 40)<|Yu 4 [] (Z9 20 []) (St 41)<|Xv 5 [0,1,2,3,4] 4 (Gt 5) (Zi 4 (Gt 5)) (St 42)<|Zf (Zn 31 4 [(.int .i64 (.ofNat 0)),(.int .u64 (.ofNat 0)),(.str []),(.v (.slice none 0 0)),(.int .i64 (.ofNat 0)),(.int .u64 (.ofNat 0)),(.str []),(.v (.slice none 0 0)),(.int .i64 (.ofNat 0)),(.int .u64 (.ofNat 0)),(.str []),(.v (.slice none 0 0)),(.int .i64 (.ofNat 0)),(.int .u64 (.ofNat 0)),(.str []),(.v (.slice none 0 0))] [(0,4,(Gt 39)),(4,4,(Gt 40)),(8,4,(Gt 41)),(12,4,(Gt 42))]) (St 43)<|Yu 7 [] (u2 (YE 31 4 56) (Gt 38) (Gt 43)) (St 44)<|Wi 8 [] (Z9 18 [(Gt 44)]) (St 45)<|Yu 9 [] (Ze 4 (Gt 6) (Gt 45)) p0<|Zw)
 Zb) (Z0 (Z1 <| fo (mQ 3 19 4) (St 47) <| mM 47 46 <| Z2)
 (Z7 (Gt 46) (Z0 (Zv<|Yu 0 [] (Z9 19 [(kD (.int .u64 (.ofNat 7200)))]) (St 48)<|Yu 1 [] (Z9 19 [(kD (.int .u64 (.ofNat 0)))]) (St 49)<|Yu 2 [] (Z9 20 []) (St 50)<|Xv 3 [0,1,2] 4 (Gt 7) (Zi 4 (Gt 7)) (St 51)<|Yu 4 [3] (Z9 20 []) (St 52)<|Zf (Yf (Gt 1)) (St 53)<|Yu 6 [3] (Z9 39 [(Gt 53)]) (St 54)<|Yu 7 [3] (Z9 20 []) (St 55)<|Xv 8 [0,1,2,3,4,5,6,7] 4 (Gt 5) (Zi 4 (Gt 5)) (St 56)<|Zf (Zn 31 8 [(.int .i64 (.ofNat 0)),(.int .u64 (.ofNat 0)),(.str []),(.v (.slice none 0 0)),(.int .i64 (.ofNat 0)),(.int .u64 (.ofNat 0)),(.str []),(.v (.slice none 0 0)),(.int .i64 (.ofNat 0)),(.int .u64 (.ofNat 0)),(.str []),(.v (.slice none 0 0)),(.int .i64 (.ofNat 0)),(.int .u64 (.ofNat 0)),(.str []),(.v (.slice none 0 0)),(.int .i64 (.ofNat 0)),(.int .u64 (.ofNat 0)),(.str []),(.v (.slice none 0 0)),(.int .i64 (.ofNat 0)),(.int .u64 (.ofNat 0)),(.str []),(.v (.slice none 0 0)),(.int .i64 (.ofNat 0)),(.int .u64 (.ofNat 0)),(.str []),(.v (.slice none 0 0)),(.int .i64 (.ofNat 0)),(.int .u64 (.ofNat 0)),(.str []),(.v (.slice none 0 0))] [(0,4,(Gt 48)),(4,4,(Gt 49)),(8,4,(Gt 50)),(12,4,(Gt 51)),(16,4,(Gt 52)),(20,4,(Gt 54)),(24,4,(Gt 55)),(28,4,(Gt 56))]) (St 57)<|Wi 10 [] (Z9 18 [(Gt 57)]) (St 58)<|Yu 11 [] (Ze 4 (Gt 6) (Gt 58)) p0<|Zw)
 Zb) (Z0 (Z1 <| fo (mQ 3 19 8) (St 60) <| mM 60 59 <| Z2)
 (Z7 (Gt 59) (Z0 (Z1<|fo (Zi 4 (Gt 8)) (St 61)<|fo (Ze 4 (Gt 6) (Gt 61)) p0<|Z2)
 Zb) (Z0 (Z1 <| fo (mQ 3 19 11) (St 63) <| mM 63 62 <| Z2)
 (Z7 (Gt 62) (Z0 (Zv<|Yu 0 [] (Z9 20 []) (St 64)<|Xv 1 [0] 4 (Gt 7) (Zi 4 (Gt 7)) (St 65)<|Yu 2 [1] (Z9 20 []) (St 66)<|Yu 3 [1] (Z9 20 []) (St 67)<|Zf (Yf (Gt 1)) (St 68)<|Yu 5 [1] (Z9 39 [(Gt 68)]) (St 69)<|Xv 6 [0,1,2,3,4,5] 4 (Gt 8) (Zi 4 (Gt 8)) (St 70)<|Zf (Zn 31 3 [(.int .i64 (.ofNat 0)),(.int .u64 (.ofNat 0)),(.str []),(.v (.slice none 0 0)),(.int .i64 (.ofNat 0)),(.int .u64 (.ofNat 0)),(.str []),(.v (.slice none 0 0)),(.int .i64 (.ofNat 0)),(.int .u64 (.ofNat 0)),(.str []),(.v (.slice none 0 0))] [(0,4,(Gt 67)),(4,4,(Gt 69)),(8,4,(Gt 70))]) (St 71)<|Wi 8 [1] (Z9 18 [(Gt 71)]) (St 72)<|Zf (Zn 31 1 [(.int .i64 (.ofNat 0)),(.int .u64 (.ofNat 0)),(.str []),(.v (.slice none 0 0))] [(0,4,(Gt 72))]) (St 73)<|Wi 10 [1] (Z9 21 [(Gt 73)]) (St 74)<|Zf (Zn 31 4 [(.int .i64 (.ofNat 0)),(.int .u64 (.ofNat 0)),(.str []),(.v (.slice none 0 0)),(.int .i64 (.ofNat 0)),(.int .u64 (.ofNat 0)),(.str []),(.v (.slice none 0 0)),(.int .i64 (.ofNat 0)),(.int .u64 (.ofNat 0)),(.str []),(.v (.slice none 0 0)),(.int .i64 (.ofNat 0)),(.int .u64 (.ofNat 0)),(.str []),(.v (.slice none 0 0))] [(0,4,(Gt 64)),(4,4,(Gt 65)),(8,4,(Gt 66)),(12,4,(Gt 74))]) (St 75)<|Wi 12 [] (Z9 18 [(Gt 75)]) (St 76)<|Yu 13 [] (Ze 4 (Gt 6) (Gt 76)) p0<|Zw)
 Zb) (Z0 (Z1 <| fo (mQ 3 19 13) (St 78) <| mM 78 77 <| Z2)
 (Z7 (Gt 77) (Z0 (Zv<|Yu 0 [] (Z9 20 []) (St 79)<|Xv 1 [0] 4 (Gt 7) (Zi 4 (Gt 7)) (St 80)<|Xv 2 [0,1] 4 (Gt 8) (Zi 4 (Gt 8)) (St 81)<|Zf (Zn 31 3 [(.int .i64 (.ofNat 0)),(.int .u64 (.ofNat 0)),(.str []),(.v (.slice none 0 0)),(.int .i64 (.ofNat 0)),(.int .u64 (.ofNat 0)),(.str []),(.v (.slice none 0 0)),(.int .i64 (.ofNat 0)),(.int .u64 (.ofNat 0)),(.str []),(.v (.slice none 0 0))] [(0,4,(Gt 79)),(4,4,(Gt 80)),(8,4,(Gt 81))]) (St 82)<|Wi 4 [] (Z9 18 [(Gt 82)]) (St 83)<|Yu 5 [] (Ze 4 (Gt 6) (Gt 83)) p0<|Zw)
 Zb) (Z0 (Z1 <| fo (mQ 3 19 15) (St 85) <| mM 85 84 <| Z2)
 (Z7 (Gt 84) (Z0 (Z1<|mK 19 [(kD (.int .u64 (.ofNat 2052)))] 86<|mK 20 [] 87<|mM 1 88<|mK 25 [(Gt 88)] 89<|fo (Zn 31 3 [(.int .i64 (.ofNat 0)),(.int .u64 (.ofNat 0)),(.str []),(.v (.slice none 0 0)),(.int .i64 (.ofNat 0)),(.int .u64 (.ofNat 0)),(.str []),(.v (.slice none 0 0)),(.int .i64 (.ofNat 0)),(.int .u64 (.ofNat 0)),(.str []),(.v (.slice none 0 0))] [(0,4,(Gt 86)),(4,4,(Gt 87)),(8,4,(Gt 89))]) (St 90)<|mK 18 [(Gt 90)] 91<|fo (Ze 4 (Gt 6) (Gt 91)) p0<|Z2)
 Zb) (Z0 (Z1 <| fo (mQ 3 19 20) (St 93) <| mM 93 92 <| Z2)
 (Z7 (Gt 92) (Z0 (Z1<|mM 1 94<|mK 25 [(Gt 94)] 95<|fo (Ze 4 (Gt 6) (Gt 95)) p0<|Z2)
 Zb) (Z0 (Z1 <| fo (mQ 3 19 24) (St 97) <| mM 97 96 <| Z2)
 (Z7 (Gt 96) (Z0 (Z1<|mM 1 98<|fo (u1 Va (Gt 98)) (St 99)<|fo (VI .rem 3 (.tmp 99) (.const (.int .i64 (.ofNat 2))) (Gt 99) (kI 2)) (St 100)<|fo (Xq .u64 (Gt 100)) (St 101)<|mK 19 [(Gt 101)] 102<|fo (Ze 4 (Gt 6) (Gt 102)) p0<|Z2)
 Zb) Z8))))))))))))))))))))
 (Z0 (Z1<|mK 20 [] 103<|fo (Ze 4 (Gt 6) (Gt 103)) p0<|Z2)
 Zb))))
def Zhk (s : List Nat) : List Nat := s.take (min s.length 255)
abbrev Z5o (es : List V) : V := Zyh [Zdm, Zra es]
def XR (k : Nat) (s : List Nat) (es : List V) : V :=
  if k = 1 then Zyh (Zgt s ++ [Zdm, Zra [Zsa 4865], Zdm, Zwa [0], Zdm, Zra es])
  else if k = 2 then Zyh (Zgt s ++ [Zsa 4865, Zsa 0, Zdm, Zra es])
  else if k = 4 then Zyh [Zsa 7200, Zsa 0, Zdm, Zwa (Zhk s), Zdm, Zwa (Zf9 s), Zdm, Zra es]
  else if k = 8 then Z5o es
  else if k = 11 then Zyh [Zdm, Zwa (Zhk s), Zdm, Zra [Zyh [Zdm, Zwa (Zf9 s), Z5o es]]]
  else if k = 13 then Zyh [Zdm, Zwa (Zhk s), Z5o es]
  else if k = 15 then Zyh [Zsa 2052, Zdm, Zwa s]
  else if k = 20 then Zwa s
  else if k = 24 then Zsa (s.length % 2)
  else Zdm
theorem vc28_1 (h20 : T 20 = Zh0) (h19 : T 19 = Zh1) (h25 : T 25 = Zhw) (h21 : T 21 = Zju) (h18 : T 18 = Zjv) (h38 : T 38 = Zlr) (h39 : T 39 = Zlq) (h28 : T 28 = Zmo) (hr : T 60 = Wv Y4) {s : List Nat} (hs : s.length ≤ 400) {es : List V} {Le : D} (he : XK Rep 4 Le es) (hel : es.length ≤ 1000) (hq : ∀ h' a b c d, Rep (XR 1 s es) [a, b, c, d] → h.next ≤ h'.next → (∀ l, l < h.next → hget h'.mem l = hget h.mem l) → Q (.agg [a, b, c, d]) h') : VC E T 28 [.int .i64 (.ofNat 1), .str s, .agg [.int .i64 (.ofNat 3), .int .u64 (.ofNat 0), .str [], Le]] h Q R := by
  simp only [XR, Zhk, Nat.reduceEqDiff, reduceCtorEq, if_true, if_false] at hq
  have hm : min s.length 255 ≤ s.length := Nat.min_le_left _ _
  have hsm := Zq he
  have ho := Y3 he
  have hc := ZF he
  refine YK h28 ?_
  unfold YI
  repeat' (with_reducible (first | refine ZA ?_ | refine ZB ?_ | refine ZQ ?_ | refine ZP ?_ | refine ZD ?_ | refine Zt ?_ | refine ZC ?_ | refine ZR ?_ | refine ZO ?_ | refine ZG ?_ | refine ZS ?_ | refine Zdb h20 ?_ | refine Zdc h19 ?_ | refine Zda h25 ?_ | refine Zem h21 ?_ ?_ ?_ | refine Zen h18 ?_ ?_ ?_ | refine Z60 h20 h19 h25 h38 hr hs ?_ | refine Z6z h20 h19 h25 h39 ?_ | simp (maxSteps := 2000000) (disch := first | assumption | exact Yt (by omega) | omega | (simp only [Zm, Zl, List.length_cons, List.length_nil, List.length_append, List.length_take, List.length_drop]; omega) | fail) only [go_sem, -Int.reduceOfNat, *] | ((first | refine Yh ?_ ?_ | refine ZV ?_ ?_ | refine Yg ?_ ?_ | refine ZT ?_ ?_ | refine ZU ?_ ?_ | refine ZH ?_ ?_) <;> intro _) | (show Q _ _; refine hq _ _ _ _ _ ?_ ?_ ?_) | (refine Zct (xs := Zgt s) (ys := [Zdm, Zra [Zsa 4865], Zdm, Zwa [0], Zdm, Zra es]) (by assumption) (Zmx ?_ ?_) (Zp ?_ ?_) (by simp) (by simp) (by simp) (by omega) ?_) | exact Zq (by assumption) | (refine Yl ?_ (by simp) (by simp)) | (refine Zp ?_ ?_) | exact Y1 | exact ZZ | (refine ZW (by first | omega | simp) ?_) | assumption | exact trivial | (show _ < _; omega) | (show _ ≤ _; omega) | (show ¬ (_ : Nat) = _; omega) | (show (_ : Nat) ≠ _; omega) | (show (_ : Nat) = _; omega) | (intro _; intros) | (refine ⟨_, by assumption, ?_⟩) | refine And.intro ?_ ?_))
theorem vc28_2 (h20 : T 20 = Zh0) (h19 : T 19 = Zh1) (h25 : T 25 = Zhw) (h21 : T 21 = Zju) (h18 : T 18 = Zjv) (h38 : T 38 = Zlr) (h39 : T 39 = Zlq) (h28 : T 28 = Zmo) (hr : T 60 = Wv Y4) {s : List Nat} (hs : s.length ≤ 400) {es : List V} {Le : D} (he : XK Rep 4 Le es) (hel : es.length ≤ 1000) (hq : ∀ h' a b c d, Rep (XR 2 s es) [a, b, c, d] → h.next ≤ h'.next → (∀ l, l < h.next → hget h'.mem l = hget h.mem l) → Q (.agg [a, b, c, d]) h') : VC E T 28 [.int .i64 (.ofNat 2), .str s, .agg [.int .i64 (.ofNat 3), .int .u64 (.ofNat 0), .str [], Le]] h Q R := by
  simp only [XR, Zhk, Nat.reduceEqDiff, reduceCtorEq, if_true, if_false] at hq
  have hm : min s.length 255 ≤ s.length := Nat.min_le_left _ _
  have hsm := Zq he
  have ho := Y3 he
  have hc := ZF he
  refine YK h28 ?_
  unfold YI
  repeat' (with_reducible (first | refine ZA ?_ | refine ZB ?_ | refine ZQ ?_ | refine ZP ?_ | refine ZD ?_ | refine Zt ?_ | refine ZC ?_ | refine ZR ?_ | refine ZO ?_ | refine ZG ?_ | refine ZS ?_ | refine Zdb h20 ?_ | refine Zdc h19 ?_ | refine Zda h25 ?_ | refine Zem h21 ?_ ?_ ?_ | refine Zen h18 ?_ ?_ ?_ | refine Z60 h20 h19 h25 h38 hr hs ?_ | refine Z6z h20 h19 h25 h39 ?_ | simp (maxSteps := 2000000) (disch := first | assumption | exact Yt (by omega) | omega | (simp only [Zm, Zl, List.length_cons, List.length_nil, List.length_append, List.length_take, List.length_drop]; omega) | fail) only [go_sem, -Int.reduceOfNat, *] | ((first | refine Yh ?_ ?_ | refine ZV ?_ ?_ | refine Yg ?_ ?_ | refine ZT ?_ ?_ | refine ZU ?_ ?_ | refine ZH ?_ ?_) <;> intro _) | (show Q _ _; refine hq _ _ _ _ _ ?_ ?_ ?_) | (refine Zct (xs := Zgt s) (ys := [Zsa 4865, Zsa 0, Zdm, Zra es]) (by assumption) (Zmx ?_ ?_) (Zp ?_ ?_) (by simp) (by simp) (by simp) (by omega) ?_) | exact Zq (by assumption) | (refine Yl ?_ (by simp) (by simp)) | (refine Zp ?_ ?_) | exact Y1 | exact ZZ | (refine ZW (by first | omega | simp) ?_) | assumption | exact trivial | (show _ < _; omega) | (show _ ≤ _; omega) | (show ¬ (_ : Nat) = _; omega) | (show (_ : Nat) ≠ _; omega) | (show (_ : Nat) = _; omega) | (intro _; intros) | (refine ⟨_, by assumption, ?_⟩) | refine And.intro ?_ ?_))
theorem vc28_4 (h20 : T 20 = Zh0) (h19 : T 19 = Zh1) (h25 : T 25 = Zhw) (h21 : T 21 = Zju) (h18 : T 18 = Zjv) (h38 : T 38 = Zlr) (h39 : T 39 = Zlq) (h28 : T 28 = Zmo) (hr : T 60 = Wv Y4) {s : List Nat} (hs : s.length ≤ 400) {es : List V} {Le : D} (he : XK Rep 4 Le es) (hel : es.length ≤ 1000) (hq : ∀ h' a b c d, Rep (XR 4 s es) [a, b, c, d] → h.next ≤ h'.next → (∀ l, l < h.next → hget h'.mem l = hget h.mem l) → Q (.agg [a, b, c, d]) h') : VC E T 28 [.int .i64 (.ofNat 4), .str s, .agg [.int .i64 (.ofNat 3), .int .u64 (.ofNat 0), .str [], Le]] h Q R := by
  simp only [XR, Zhk, Nat.reduceEqDiff, reduceCtorEq, if_true, if_false] at hq
  have hm : min s.length 255 ≤ s.length := Nat.min_le_left _ _
  have hsm := Zq he
  have ho := Y3 he
  have hc := ZF he
  refine YK h28 ?_
  unfold YI
  exact Zfe
theorem vc28_5 (h20 : T 20 = Zh0) (h19 : T 19 = Zh1) (h25 : T 25 = Zhw) (h21 : T 21 = Zju) (h18 : T 18 = Zjv) (h38 : T 38 = Zlr) (h39 : T 39 = Zlq) (h28 : T 28 = Zmo) (hr : T 60 = Wv Y4) {s : List Nat} (hs : s.length ≤ 400) {es : List V} {Le : D} (he : XK Rep 4 Le es) (hel : es.length ≤ 1000) (hq : ∀ h' a b c d, Rep (XR 5 s es) [a, b, c, d] → h.next ≤ h'.next → (∀ l, l < h.next → hget h'.mem l = hget h.mem l) → Q (.agg [a, b, c, d]) h') : VC E T 28 [.int .i64 (.ofNat 5), .str s, .agg [.int .i64 (.ofNat 3), .int .u64 (.ofNat 0), .str [], Le]] h Q R := by
  simp only [XR, Zhk, Nat.reduceEqDiff, reduceCtorEq, if_true, if_false] at hq
  have hm : min s.length 255 ≤ s.length := Nat.min_le_left _ _
  have hsm := Zq he
  have ho := Y3 he
  have hc := ZF he
  refine YK h28 ?_
  unfold YI
  exact Zfe
theorem vc28_8 (h20 : T 20 = Zh0) (h19 : T 19 = Zh1) (h25 : T 25 = Zhw) (h21 : T 21 = Zju) (h18 : T 18 = Zjv) (h38 : T 38 = Zlr) (h39 : T 39 = Zlq) (h28 : T 28 = Zmo) (hr : T 60 = Wv Y4) {s : List Nat} (hs : s.length ≤ 400) {es : List V} {Le : D} (he : XK Rep 4 Le es) (hel : es.length ≤ 1000) (hq : ∀ h' a b c d, Rep (XR 8 s es) [a, b, c, d] → h.next ≤ h'.next → (∀ l, l < h.next → hget h'.mem l = hget h.mem l) → Q (.agg [a, b, c, d]) h') : VC E T 28 [.int .i64 (.ofNat 8), .str s, .agg [.int .i64 (.ofNat 3), .int .u64 (.ofNat 0), .str [], Le]] h Q R := by
  simp only [XR, Zhk, Nat.reduceEqDiff, reduceCtorEq, if_true, if_false] at hq
  have hm : min s.length 255 ≤ s.length := Nat.min_le_left _ _
  have hsm := Zq he
  have ho := Y3 he
  have hc := ZF he
  refine YK h28 ?_
  unfold YI
  exact Zfe
theorem Z65 (h20 : T 20 = Zh0) (h19 : T 19 = Zh1) (h25 : T 25 = Zhw) (h21 : T 21 = Zju) (h18 : T 18 = Zjv) (h38 : T 38 = Zlr) (h39 : T 39 = Zlq) (h28 : T 28 = Zmo) (hr : T 60 = Wv Y4) {s : List Nat} (hs : s.length ≤ 400) {es : List V} {Le : D} (he : XK Rep 4 Le es) (hel : es.length ≤ 1000) (hq : ∀ h' a b c d, Rep (XR 11 s es) [a, b, c, d] → h.next ≤ h'.next → (∀ l, l < h.next → hget h'.mem l = hget h.mem l) → Q (.agg [a, b, c, d]) h') : VC E T 28 [.int .i64 (.ofNat 11), .str s, .agg [.int .i64 (.ofNat 3), .int .u64 (.ofNat 0), .str [], Le]] h Q R := by
  simp only [XR, Zhk, Nat.reduceEqDiff, reduceCtorEq, if_true, if_false] at hq
  have hm : min s.length 255 ≤ s.length := Nat.min_le_left _ _
  have hsm := Zq he
  have ho := Y3 he
  have hc := ZF he
  refine YK h28 ?_
  unfold YI
  exact Zfe
theorem Z64 (h20 : T 20 = Zh0) (h19 : T 19 = Zh1) (h25 : T 25 = Zhw) (h21 : T 21 = Zju) (h18 : T 18 = Zjv) (h38 : T 38 = Zlr) (h39 : T 39 = Zlq) (h28 : T 28 = Zmo) (hr : T 60 = Wv Y4) {s : List Nat} (hs : s.length ≤ 400) {es : List V} {Le : D} (he : XK Rep 4 Le es) (hel : es.length ≤ 1000) (hq : ∀ h' a b c d, Rep (XR 13 s es) [a, b, c, d] → h.next ≤ h'.next → (∀ l, l < h.next → hget h'.mem l = hget h.mem l) → Q (.agg [a, b, c, d]) h') : VC E T 28 [.int .i64 (.ofNat 13), .str s, .agg [.int .i64 (.ofNat 3), .int .u64 (.ofNat 0), .str [], Le]] h Q R := by
  simp only [XR, Zhk, Nat.reduceEqDiff, reduceCtorEq, if_true, if_false] at hq
  have hm : min s.length 255 ≤ s.length := Nat.min_le_left _ _
  have hsm := Zq he
  have ho := Y3 he
  have hc := ZF he
  refine YK h28 ?_
  unfold YI
  exact Zfe
theorem Z63 (h20 : T 20 = Zh0) (h19 : T 19 = Zh1) (h25 : T 25 = Zhw) (h21 : T 21 = Zju) (h18 : T 18 = Zjv) (h38 : T 38 = Zlr) (h39 : T 39 = Zlq) (h28 : T 28 = Zmo) (hr : T 60 = Wv Y4) {s : List Nat} (hs : s.length ≤ 400) {es : List V} {Le : D} (he : XK Rep 4 Le es) (hel : es.length ≤ 1000) (hq : ∀ h' a b c d, Rep (XR 15 s es) [a, b, c, d] → h.next ≤ h'.next → (∀ l, l < h.next → hget h'.mem l = hget h.mem l) → Q (.agg [a, b, c, d]) h') : VC E T 28 [.int .i64 (.ofNat 15), .str s, .agg [.int .i64 (.ofNat 3), .int .u64 (.ofNat 0), .str [], Le]] h Q R := by
  simp only [XR, Zhk, Nat.reduceEqDiff, reduceCtorEq, if_true, if_false] at hq
  have hm : min s.length 255 ≤ s.length := Nat.min_le_left _ _
  have hsm := Zq he
  have ho := Y3 he
  have hc := ZF he
  refine YK h28 ?_
  unfold YI
  exact Zfe
theorem Z62 (h20 : T 20 = Zh0) (h19 : T 19 = Zh1) (h25 : T 25 = Zhw) (h21 : T 21 = Zju) (h18 : T 18 = Zjv) (h38 : T 38 = Zlr) (h39 : T 39 = Zlq) (h28 : T 28 = Zmo) (hr : T 60 = Wv Y4) {s : List Nat} (hs : s.length ≤ 400) {es : List V} {Le : D} (he : XK Rep 4 Le es) (hel : es.length ≤ 1000) (hq : ∀ h' a b c d, Rep (XR 20 s es) [a, b, c, d] → h.next ≤ h'.next → (∀ l, l < h.next → hget h'.mem l = hget h.mem l) → Q (.agg [a, b, c, d]) h') : VC E T 28 [.int .i64 (.ofNat 20), .str s, .agg [.int .i64 (.ofNat 3), .int .u64 (.ofNat 0), .str [], Le]] h Q R := by
  simp only [XR, Zhk, Nat.reduceEqDiff, reduceCtorEq, if_true, if_false] at hq
  have hm : min s.length 255 ≤ s.length := Nat.min_le_left _ _
  have hsm := Zq he
  have ho := Y3 he
  have hc := ZF he
  refine YK h28 ?_
  unfold YI
  exact Zfe
theorem Z61 (h20 : T 20 = Zh0) (h19 : T 19 = Zh1) (h25 : T 25 = Zhw) (h21 : T 21 = Zju) (h18 : T 18 = Zjv) (h38 : T 38 = Zlr) (h39 : T 39 = Zlq) (h28 : T 28 = Zmo) (hr : T 60 = Wv Y4) {s : List Nat} (hs : s.length ≤ 400) {es : List V} {Le : D} (he : XK Rep 4 Le es) (hel : es.length ≤ 1000) (hq : ∀ h' a b c d, Rep (XR 24 s es) [a, b, c, d] → h.next ≤ h'.next → (∀ l, l < h.next → hget h'.mem l = hget h.mem l) → Q (.agg [a, b, c, d]) h') : VC E T 28 [.int .i64 (.ofNat 24), .str s, .agg [.int .i64 (.ofNat 3), .int .u64 (.ofNat 0), .str [], Le]] h Q R := by
  simp only [XR, Zhk, Nat.reduceEqDiff, reduceCtorEq, if_true, if_false] at hq
  have hm : min s.length 255 ≤ s.length := Nat.min_le_left _ _
  have hsm := Zq he
  have ho := Y3 he
  have hc := ZF he
  refine YK h28 ?_
  unfold YI
  repeat' (with_reducible (first | refine ZA ?_ | refine ZB ?_ | refine ZQ ?_ | refine ZP ?_ | refine ZD ?_ | refine Zt ?_ | refine ZC ?_ | refine ZR ?_ | refine ZO ?_ | refine ZG ?_ | refine ZS ?_ | refine Zdb h20 ?_ | refine Zdc h19 ?_ | refine Zda h25 ?_ | refine Zem h21 ?_ ?_ ?_ | refine Zen h18 ?_ ?_ ?_ | refine Z60 h20 h19 h25 h38 hr hs ?_ | refine Z6z h20 h19 h25 h39 ?_ | simp (maxSteps := 2000000) (disch := first | assumption | exact Yt (by omega) | omega | (simp only [Zm, Zl, List.length_cons, List.length_nil, List.length_append, List.length_take, List.length_drop]; omega) | fail) only [go_sem, -Int.reduceOfNat, *, Z6m, Wm, Zg5] | ((first | refine Yh ?_ ?_ | refine ZV ?_ ?_ | refine Yg ?_ ?_ | refine ZT ?_ ?_ | refine ZU ?_ ?_ | refine ZH ?_ ?_) <;> intro _) | (show Q _ _; refine hq _ _ _ _ _ ?_ ?_ ?_) | (refine Zct (xs := Zgt s) (ys := [Zdm]) (by assumption) (Zmx ?_ ?_) (Zp ?_ ?_) (by simp) (by simp) (by simp) (by omega) ?_) | exact Zq (by assumption) | (refine Yl ?_ (by simp) (by simp)) | (refine Zp ?_ ?_) | exact Y1 | exact ZZ | (refine ZW (by first | omega | simp) ?_) | assumption | exact trivial | (show _ < _; omega) | (show _ ≤ _; omega) | (show ¬ (_ : Nat) = _; omega) | (show (_ : Nat) ≠ _; omega) | (show (_ : Nat) = _; omega) | (intro _; intros) | (refine ⟨_, by assumption, ?_⟩) | refine And.intro ?_ ?_))
end
section
variable {h : H} {Q : D → H → Prop} {R : Uk}
def q6 : ZE := Y5 YI (fun t h => .ok (Gt 0 t) h)
 (Z0 (Z1<|fo (Yf (kD (.v (.slice none 0 0)))) (St 0)<|Z2)
 (Z0 (Z1<|fo (Zn 3 10 [(.int .i64 (.ofNat 0)),(.int .i64 (.ofNat 0)),(.int .i64 (.ofNat 0)),(.int .i64 (.ofNat 0)),(.int .i64 (.ofNat 0)),(.int .i64 (.ofNat 0)),(.int .i64 (.ofNat 0)),(.int .i64 (.ofNat 0)),(.int .i64 (.ofNat 0)),(.int .i64 (.ofNat 0))] [(0,1,(kI 1)),(1,1,(kI 2)),(2,1,(kI 4)),(3,1,(kI 5)),(4,1,(kI 8)),(5,1,(kI 11)),(6,1,(kI 13)),(7,1,(kI 15)),(8,1,(kI 20)),(9,1,(kI 24))]) (St 1)<|mM 1 0<|Z2)
 Zb))
def Zt2 : ZE := Y5 YI (fun t h => .ok (Gt 4 t) h)
 (Z0 (Z1<|fo (Yf (kI 0)) (St 4)<|Z2)
 (Z0 (Z0 (Z1<|mM 0 6<|fo (u1 V6 (Gt 6)) (St 7)<|fo (Yf (kI 0)) (St 8)<|Z2)
 (Zc 0 (ZI (Z0 (Z1<|fo (Zd Vc .lss 3 (.tmp 8) (.tmp 7) (Gt 8) (Gt 7)) (St 9)<|Z2)
 (Z0 (Z7 (Gt 9) Z8 (ZL 0))
 (Z0 (Zc 1 (Z0 (Z1<|mM 8 10<|mM 10 5<|Z2)
 (Z0 (Z1<|mM 1 11<|mM 0 12<|mM 5 13<|fo (u2 (Vw 1) (Gt 12) (Gt 13)) (St 14)<|mL 14 15<|fo (Zd ZX .eql 3 (.tmp 11) (.tmp 15) (Gt 11) (Gt 15)) (St 16)<|Z2)
 (Z7 (Gt 16) (Z0 (Z1<|mM 5 17<|mM 17 4<|Z2)
 Zb) Z8))))
 (Z1<|fo (Zd Y2 .add 3 (.tmp 8) (.const (.int .i64 (.ofNat 1))) (Gt 8) (kI 1)) (St 18)<|mM 18 8<|Z2)))))))
 (Z0 (Z1<|fo (Yf (kD (.int .i64 (.negSucc 0)))) (St 4)<|Z2)
 Zb)))
def Zvw : ZE := Y5 YI (fun t h => .ok (Gt 4 t) h)
 (Z0 (Z1<|fo (Yf (kD (.v (.bool false)))) (St 4)<|Z2)
 (Z0 (Z1<|mM 0 5<|mM 1 6<|mK 37 [(Gt 5),(Gt 6)] 7<|fo (Zd XH .geq 3 (.tmp 7) (.const (.int .i64 (.ofNat 0))) (Gt 7) (kI 0)) (St 8)<|mM 8 4<|Z2)
 Zb))
def Zxe : ZE := Y5 YI (fun t h => YH ⟨[.cN 6 4, .t 7], .skip⟩ (act t) h)
 (Z0 (Z1<|fo (Za 31 [(.int .i64 (.ofNat 0)),(.int .u64 (.ofNat 0)),(.str []),(.v (.slice none 0 0))]) (St 6)<|fo (Yf (kD (.v (.bool false)))) (St 7)<|Z2)
 (Z0 (Z0 (Z1<|mK 6 [] 8<|mM 0 9<|mK 27 [(Gt 8),(Gt 9)] 10<|fo (u1 (Zo9 .not) (Gt 10)) (St 11)<|Z2)
 (Z7 (Gt 11) (Z0 (Z1<|fo (Zy [(.int .i64 (.ofNat 0)),(.int .u64 (.ofNat 0)),(.str []),(.v (.slice none 0 0))] []) (St 12)<|fo (Ze 4 (Gt 6) (Gt 12)) p0<|fo (Yf (kD (.v (.bool false)))) (St 7)<|Z2)
 Zb) Z8))
 (Z0 (Z1<|mM 0 13<|fo (Xq .u64 (Gt 13)) (St 14)<|mK 19 [(Gt 14)] 15<|mK 20 [] 16<|mM 0 17<|mM 1 18<|mM 2 19<|mK 21 [(Gt 19)] 20<|mK 28 [(Gt 17),(Gt 18),(Gt 20)] 21<|fo (Zn 31 3 [(.int .i64 (.ofNat 0)),(.int .u64 (.ofNat 0)),(.str []),(.v (.slice none 0 0)),(.int .i64 (.ofNat 0)),(.int .u64 (.ofNat 0)),(.str []),(.v (.slice none 0 0)),(.int .i64 (.ofNat 0)),(.int .u64 (.ofNat 0)),(.str []),(.v (.slice none 0 0))] [(0,4,(Gt 15)),(4,4,(Gt 16)),(8,4,(Gt 21))]) (St 22)<|mK 18 [(Gt 22)] 23<|fo (Ze 4 (Gt 6) (Gt 23)) p0<|fo (Yf (kD (.v (.bool true)))) (St 7)<|Z2)
 Zb)))
theorem Zd3 {α : Type} {l : List α} {i : Nat} (h : l.drop i = []) : l.length ≤ i := by
  have := congrArg List.length h
  simp only [List.length_drop, List.length_nil] at this
  omega
theorem Zkw {α : Type} {l : List α} {i : Nat} {x : α} {r : List α} (h : l.drop i = x :: r) : i < l.length := by
  rcases Nat.lt_or_ge i l.length with hh | hh
  · exact hh
  · rw [List.drop_of_length_le hh] at h; cases h
theorem Zd4 {α : Type} {l : List α} {i : Nat} {x : α} {r : List α} (h : l.drop i = x :: r) : l[i]? = some x ∧ l.drop (i + 1) = r := by
  constructor
  · have := congrArg List.head? h
    simpa [List.head?_drop] using this
  · rw [← List.drop_drop, h]; rfl
theorem iLt_neg {a b : Nat} : iLt (.negSucc a) (.ofNat b) = true := by rw [Zyt]; exact decide_eq_true (Int.lt_of_lt_of_le (Int.negSucc_lt_zero a) (Int.natCast_nonneg b))
def Zgs (l : List Nat) : List D := l.map fun n => .int .i64 (.ofNat n)
theorem Zp1 {l : List Nat} {i n : Nat} {r : List Nat} (h : l.drop i = n :: r) : (Zgs l).drop (i * 1) = .int .i64 (.ofNat n) :: Zgs r := by
  rw [Nat.mul_one, Zgs, ← List.map_drop, h]; rfl
def ixK (k : Int) : List Nat → Nat → Int
  | [], _ => .negSucc 0
  | n :: r, i => bif Zb7 k (.ofNat n) then .ofNat i else ixK k r (i + 1)
abbrev IIx (h : H) (d : D) (k : Int) (n : Nat) (l : List Nat) (res : Int) (m : Nat) (t1 : Tr D) (h1 : H) : Prop :=
  h1 = h ∧ Gt 0 t1 = d ∧ Gt 1 t1 = .int .i64 k ∧ Gt 7 t1 = .int .i64 (.ofNat n) ∧ ∃ i, Gt 8 t1 = .int .i64 (.ofNat i) ∧ i + m = n ∧ ∃ r, l.drop i = r ∧ ixK k r i = res
theorem vc37 (h37 : T 37 = Zt2) {id : Nat} {k : Int} {l : List Nat} {n : Nat} (hl : l.length = n) (hn : n ≤ 1000) (hq : Q (.int .i64 (ixK k l 0)) h) : VC E T 37 [.sl id n (Zgs l), .int .i64 k] h Q R := by
  generalize hres : ixK k l 0 = res at hq
  refine YK h37 ?_
  unfold YI
  repeat' (with_reducible (first | refine ZA ?_ | refine ZB ?_ | refine ZQ ?_ | refine ZP ?_ | refine ZD ?_ | refine Zt ?_ | refine ZC ?_ | refine ZR ?_ | refine ZO ?_ | refine ZG ?_ | refine ZS ?_ | simp (maxSteps := 2000000) (disch := first | assumption | omega | (simp only [Zm, Zl, List.length_cons, List.length_nil, List.length_append, List.length_take, List.length_drop]; omega) | fail) only [go_sem, -Int.reduceOfNat, *] | ((first | refine Yh ?_ ?_ | refine ZV ?_ ?_ | refine Yg ?_ ?_ | refine ZT ?_ ?_ | refine ZU ?_ ?_ | refine ZH ?_ ?_) <;> intro _) | (refine Zah (IIx h (.sl id n (Zgs l)) k n l res) (n := n) ?_ ?_) | (refine ⟨l, rfl, ?_⟩) | exact hres | assumption | exact trivial | (show _ < _; omega) | (show _ ≤ _; omega) | (show ¬ (_ : Nat) = _; omega) | (show (_ : Nat) ≠ _; omega) | (show (_ : Nat) = _; omega) | (intro _; intros) | (refine ⟨_, by assumption, ?_⟩) | refine And.intro ?_ ?_))
  all_goals
    rintro m t1 h1 ⟨rfl, g0, g1, g7, i, g8, gi, r, gr, ge⟩
    cases r with
    | nil =>
      have := Zd3 gr
      obtain rfl : m = 0 := by omega
      obtain rfl : i = n := by omega
      simp only [ixK] at ge
      subst ge
      clear gr this hres
      repeat' (with_reducible (first | refine ZA ?_ | refine ZB ?_ | refine ZQ ?_ | refine ZP ?_ | refine ZD ?_ | refine Zt ?_ | refine ZC ?_ | refine ZR ?_ | refine ZO ?_ | refine ZG ?_ | refine ZS ?_ | simp (maxSteps := 2000000) (disch := first | assumption | omega | (simp only [Zm, Zl, List.length_cons, List.length_nil, List.length_append, List.length_take, List.length_drop]; omega) | fail) only [go_sem, -Int.reduceOfNat, *] | ((first | refine Yh ?_ ?_ | refine ZV ?_ ?_ | refine Yg ?_ ?_ | refine ZT ?_ ?_ | refine ZU ?_ ?_ | refine ZH ?_ ?_) <;> intro _) | (show Q _ _; exact hq) | assumption | exact trivial | (show _ < _; omega) | (show _ ≤ _; omega) | (show ¬ (_ : Nat) = _; omega) | (show (_ : Nat) ≠ _; omega) | (show (_ : Nat) = _; omega) | (intro _; intros) | (refine ⟨_, by assumption, ?_⟩) | refine And.intro ?_ ?_))
    | cons x r =>
      have hi := Zkw gr
      rw [hl] at hi
      have hx := Zp1 gr
      have hix : ∀ (kk : IntKind) (h : H), Zgl 1 (.sl id n (Zgs l)) (.int kk (.ofNat i)) h = .ok (.ep (.int .i64 (.ofNat x) :: Zgs r)) h := fun kk h => Ze8 hi hx
      obtain ⟨_, hr⟩ := Zd4 gr
      simp only [ixK] at ge
      clear gr hres hx
      cases hp : Zb7 k (.ofNat x)
      all_goals
        simp only [hp, cond_true, cond_false] at ge
        try subst ge
        repeat' (with_reducible (first | refine ZA ?_ | refine ZB ?_ | refine ZQ ?_ | refine ZP ?_ | refine ZD ?_ | refine Zt ?_ | refine ZC ?_ | refine ZR ?_ | refine ZO ?_ | refine ZG ?_ | refine ZS ?_ | simp (maxSteps := 2000000) (disch := first | assumption | omega | (simp only [Zm, Zl, List.length_cons, List.length_nil, List.length_append, List.length_take, List.length_drop]; omega) | fail) only [go_sem, -Int.reduceOfNat, *] | ((first | refine Yh ?_ ?_ | refine ZV ?_ ?_ | refine Yg ?_ ?_ | refine ZT ?_ ?_ | refine ZU ?_ ?_ | refine ZH ?_ ?_) <;> intro _) | (show Q _ _; exact hq) | (refine ⟨m - 1, by omega, ?_⟩) | (refine ⟨r, by assumption, ?_⟩) | exact ge | assumption | exact trivial | (show _ < _; omega) | (show _ ≤ _; omega) | (show ¬ (_ : Nat) = _; omega) | (show (_ : Nat) ≠ _; omega) | (show (_ : Nat) = _; omega) | (intro _; intros) | (refine ⟨_, by assumption, ?_⟩) | refine And.intro ?_ ?_))
def kK : List Nat := [1, 2, 4, 5, 8, 11, 13, 15, 20, 24]
def Z0i (k : Int) : Bool := match ixK k kK 0 with
  | .ofNat _ => true
  | .negSucc _ => false
theorem Zoc (h37 : T 37 = Zt2) (h27 : T 27 = Zvw) {id : Nat} {k : Int} (hq : Q (.v (.bool (Z0i k))) h) : VC E T 27 [.sl id 10 (Zgs kK), .int .i64 k] h Q R := by
  unfold Z0i at hq
  cases hx : ixK k kK 0
  all_goals
    simp only [hx] at hq
    refine YK h27 ?_
    unfold YI
    repeat' (with_reducible (first | refine ZA ?_ | refine ZB ?_ | refine ZQ ?_ | refine ZP ?_ | refine ZD ?_ | refine Zt ?_ | refine ZC ?_ | refine ZR ?_ | refine ZO ?_ | refine ZG ?_ | refine ZS ?_ | refine vc37 h37 rfl (by decide) ?_ | simp (maxSteps := 2000000) (disch := first | assumption | omega | (simp only [Zm, Zl, List.length_cons, List.length_nil, List.length_append, List.length_take, List.length_drop]; omega) | fail) only [go_sem, -Int.reduceOfNat, *, hx, iLt_neg] | ((first | refine Yh ?_ ?_ | refine ZV ?_ ?_ | refine Yg ?_ ?_ | refine ZT ?_ ?_ | refine ZU ?_ ?_ | refine ZH ?_ ?_) <;> intro _) | (show Q _ _; exact hq) | assumption | exact trivial | (show _ < _; omega) | (show _ ≤ _; omega) | (show ¬ (_ : Nat) = _; omega) | (show (_ : Nat) ≠ _; omega) | (show (_ : Nat) = _; omega) | (intro _; intros) | (refine ⟨_, by assumption, ?_⟩) | refine And.intro ?_ ?_))
theorem kK_D : Zgs kK = [.int .i64 (.ofNat 1), .int .i64 (.ofNat 2), .int .i64 (.ofNat 4), .int .i64 (.ofNat 5), .int .i64 (.ofNat 8), .int .i64 (.ofNat 11), .int .i64 (.ofNat 13), .int .i64 (.ofNat 15), .int .i64 (.ofNat 20), .int .i64 (.ofNat 24)] := rfl
theorem Z2y (h6 : T 6 = q6) (hq : ∀ h' id, h.next ≤ h'.next → (∀ l, l < h.next → hget h'.mem l = hget h.mem l) → Q (.sl id 10 (Zgs kK)) h') : VC E T 6 [] h Q R := by
  simp only [kK_D] at hq
  refine YK h6 ?_
  unfold YI
  repeat' (with_reducible (first | refine ZA ?_ | refine ZB ?_ | refine ZQ ?_ | refine ZP ?_ | refine ZD ?_ | refine Zt ?_ | refine ZC ?_ | refine ZR ?_ | refine ZO ?_ | refine ZG ?_ | refine ZS ?_ | simp (maxSteps := 2000000) (disch := first | assumption | omega | (simp only [Zm, Zl, List.length_cons, List.length_nil, List.length_append, List.length_take, List.length_drop]; omega) | fail) only [go_sem, -Int.reduceOfNat, *] | ((first | refine Yh ?_ ?_ | refine ZV ?_ ?_ | refine Yg ?_ ?_ | refine ZT ?_ ?_ | refine ZU ?_ ?_ | refine ZH ?_ ?_) <;> intro _) | (show Q _ _; refine hq _ _ ?_ ?_) | assumption | exact trivial | (show _ < _; omega) | (show _ ≤ _; omega) | (show ¬ (_ : Nat) = _; omega) | (show (_ : Nat) ≠ _; omega) | (show (_ : Nat) = _; omega) | (intro _; intros) | (refine ⟨_, by assumption, ?_⟩) | refine And.intro ?_ ?_))
def Yw (k : Nat) (s : List Nat) (es : List V) : V := Zyh [Zsa k, Zdm, XR k s es]
theorem vc14_1 (h20 : T 20 = Zh0) (h19 : T 19 = Zh1) (h25 : T 25 = Zhw) (h21 : T 21 = Zju) (h18 : T 18 = Zjv) (h38 : T 38 = Zlr) (h39 : T 39 = Zlq) (h28 : T 28 = Zmo) (h6 : T 6 = q6) (h37 : T 37 = Zt2) (h27 : T 27 = Zvw) (h14 : T 14 = Zxe) (hr : T 60 = Wv Y4) {s : List Nat} (hs : s.length ≤ 400) {es : List V} {Le : D} (he : XK Rep 4 Le es) (hel : es.length ≤ 1000) (hq : ∀ h' a b c d, Rep (Yw 1 s es) [a, b, c, d] → h.next ≤ h'.next → (∀ l, l < h.next → hget h'.mem l = hget h.mem l) → Q (.tup [.agg [a, b, c, d], .v (.bool true)]) h') : VC E T 14 [.int .i64 (.ofNat 1), .str s, Le] h Q R := by
  have hin : Z0i (.ofNat 1) = true := rfl
  have hsm := Zq he
  have ho := Y3 he
  have hc := ZF he
  unfold Yw at hq
  refine YK h14 ?_
  unfold YI
  repeat' (with_reducible (first | refine ZA ?_ | refine ZB ?_ | refine ZQ ?_ | refine ZP ?_ | refine ZD ?_ | refine Zt ?_ | refine ZC ?_ | refine ZR ?_ | refine ZO ?_ | refine ZG ?_ | refine ZS ?_ | refine Zdb h20 ?_ | refine Zdc h19 ?_ | refine Zda h25 ?_ | refine Zem h21 ?_ ?_ ?_ | refine Zen h18 ?_ ?_ ?_ | refine Z2y h6 ?_ | refine Zoc h37 h27 ?_ | refine vc28_1 h20 h19 h25 h21 h18 h38 h39 h28 hr hs he hel ?_ | simp (maxSteps := 2000000) (disch := first | assumption | exact Yt (by omega) | omega | (simp only [Zm, Zl, List.length_cons, List.length_nil, List.length_append, List.length_take, List.length_drop]; omega) | fail) only [go_sem, -Int.reduceOfNat, *, Wm] | ((first | refine Yh ?_ ?_ | refine ZV ?_ ?_ | refine Yg ?_ ?_ | refine ZT ?_ ?_ | refine ZU ?_ ?_ | refine ZH ?_ ?_) <;> intro _) | (show Q _ _; refine hq _ _ _ _ _ ?_ ?_ ?_) | exact Zq (by assumption) | (refine Yl ?_ (by simp) (by simp)) | (refine Zp ?_ ?_) | exact Y1 | exact ZZ | (refine ZW (by first | omega | simp) ?_) | assumption | exact trivial | (show _ < _; omega) | (show _ ≤ _; omega) | (show ¬ (_ : Nat) = _; omega) | (show (_ : Nat) ≠ _; omega) | (show (_ : Nat) = _; omega) | (intro _; intros) | (refine ⟨_, by assumption, ?_⟩) | refine And.intro ?_ ?_))
theorem vc14_2 (h20 : T 20 = Zh0) (h19 : T 19 = Zh1) (h25 : T 25 = Zhw) (h21 : T 21 = Zju) (h18 : T 18 = Zjv) (h38 : T 38 = Zlr) (h39 : T 39 = Zlq) (h28 : T 28 = Zmo) (h6 : T 6 = q6) (h37 : T 37 = Zt2) (h27 : T 27 = Zvw) (h14 : T 14 = Zxe) (hr : T 60 = Wv Y4) {s : List Nat} (hs : s.length ≤ 400) {es : List V} {Le : D} (he : XK Rep 4 Le es) (hel : es.length ≤ 1000) (hq : ∀ h' a b c d, Rep (Yw 2 s es) [a, b, c, d] → h.next ≤ h'.next → (∀ l, l < h.next → hget h'.mem l = hget h.mem l) → Q (.tup [.agg [a, b, c, d], .v (.bool true)]) h') : VC E T 14 [.int .i64 (.ofNat 2), .str s, Le] h Q R := by
  have hin : Z0i (.ofNat 2) = true := rfl
  have hsm := Zq he
  have ho := Y3 he
  have hc := ZF he
  unfold Yw at hq
  refine YK h14 ?_
  unfold YI
  repeat' (with_reducible (first | refine ZA ?_ | refine ZB ?_ | refine ZQ ?_ | refine ZP ?_ | refine ZD ?_ | refine Zt ?_ | refine ZC ?_ | refine ZR ?_ | refine ZO ?_ | refine ZG ?_ | refine ZS ?_ | refine Zdb h20 ?_ | refine Zdc h19 ?_ | refine Zda h25 ?_ | refine Zem h21 ?_ ?_ ?_ | refine Zen h18 ?_ ?_ ?_ | refine Z2y h6 ?_ | refine Zoc h37 h27 ?_ | refine vc28_2 h20 h19 h25 h21 h18 h38 h39 h28 hr hs he hel ?_ | simp (maxSteps := 2000000) (disch := first | assumption | exact Yt (by omega) | omega | (simp only [Zm, Zl, List.length_cons, List.length_nil, List.length_append, List.length_take, List.length_drop]; omega) | fail) only [go_sem, -Int.reduceOfNat, *, Wm] | ((first | refine Yh ?_ ?_ | refine ZV ?_ ?_ | refine Yg ?_ ?_ | refine ZT ?_ ?_ | refine ZU ?_ ?_ | refine ZH ?_ ?_) <;> intro _) | (show Q _ _; refine hq _ _ _ _ _ ?_ ?_ ?_) | exact Zq (by assumption) | (refine Yl ?_ (by simp) (by simp)) | (refine Zp ?_ ?_) | exact Y1 | exact ZZ | (refine ZW (by first | omega | simp) ?_) | assumption | exact trivial | (show _ < _; omega) | (show _ ≤ _; omega) | (show ¬ (_ : Nat) = _; omega) | (show (_ : Nat) ≠ _; omega) | (show (_ : Nat) = _; omega) | (intro _; intros) | (refine ⟨_, by assumption, ?_⟩) | refine And.intro ?_ ?_))
theorem vc14_4 (h20 : T 20 = Zh0) (h19 : T 19 = Zh1) (h25 : T 25 = Zhw) (h21 : T 21 = Zju) (h18 : T 18 = Zjv) (h38 : T 38 = Zlr) (h39 : T 39 = Zlq) (h28 : T 28 = Zmo) (h6 : T 6 = q6) (h37 : T 37 = Zt2) (h27 : T 27 = Zvw) (h14 : T 14 = Zxe) (hr : T 60 = Wv Y4) {s : List Nat} (hs : s.length ≤ 400) {es : List V} {Le : D} (he : XK Rep 4 Le es) (hel : es.length ≤ 1000) (hq : ∀ h' a b c d, Rep (Yw 4 s es) [a, b, c, d] → h.next ≤ h'.next → (∀ l, l < h.next → hget h'.mem l = hget h.mem l) → Q (.tup [.agg [a, b, c, d], .v (.bool true)]) h') : VC E T 14 [.int .i64 (.ofNat 4), .str s, Le] h Q R := by
  have hin : Z0i (.ofNat 4) = true := rfl
  have hsm := Zq he
  have ho := Y3 he
  have hc := ZF he
  unfold Yw at hq
  refine YK h14 ?_
  unfold YI
  repeat' (with_reducible (first | refine ZA ?_ | refine ZB ?_ | refine ZQ ?_ | refine ZP ?_ | refine ZD ?_ | refine Zt ?_ | refine ZC ?_ | refine ZR ?_ | refine ZO ?_ | refine ZG ?_ | refine ZS ?_ | refine Zdb h20 ?_ | refine Zdc h19 ?_ | refine Zda h25 ?_ | refine Zem h21 ?_ ?_ ?_ | refine Zen h18 ?_ ?_ ?_ | refine Z2y h6 ?_ | refine Zoc h37 h27 ?_ | refine vc28_4 h20 h19 h25 h21 h18 h38 h39 h28 hr hs he hel ?_ | simp (maxSteps := 2000000) (disch := first | assumption | exact Yt (by omega) | omega | (simp only [Zm, Zl, List.length_cons, List.length_nil, List.length_append, List.length_take, List.length_drop]; omega) | fail) only [go_sem, -Int.reduceOfNat, *, Wm] | ((first | refine Yh ?_ ?_ | refine ZV ?_ ?_ | refine Yg ?_ ?_ | refine ZT ?_ ?_ | refine ZU ?_ ?_ | refine ZH ?_ ?_) <;> intro _) | (show Q _ _; refine hq _ _ _ _ _ ?_ ?_ ?_) | exact Zq (by assumption) | (refine Yl ?_ (by simp) (by simp)) | (refine Zp ?_ ?_) | exact Y1 | exact ZZ | (refine ZW (by first | omega | simp) ?_) | assumption | exact trivial | (show _ < _; omega) | (show _ ≤ _; omega) | (show ¬ (_ : Nat) = _; omega) | (show (_ : Nat) ≠ _; omega) | (show (_ : Nat) = _; omega) | (intro _; intros) | (refine ⟨_, by assumption, ?_⟩) | refine And.intro ?_ ?_))
theorem vc14_5 (h20 : T 20 = Zh0) (h19 : T 19 = Zh1) (h25 : T 25 = Zhw) (h21 : T 21 = Zju) (h18 : T 18 = Zjv) (h38 : T 38 = Zlr) (h39 : T 39 = Zlq) (h28 : T 28 = Zmo) (h6 : T 6 = q6) (h37 : T 37 = Zt2) (h27 : T 27 = Zvw) (h14 : T 14 = Zxe) (hr : T 60 = Wv Y4) {s : List Nat} (hs : s.length ≤ 400) {es : List V} {Le : D} (he : XK Rep 4 Le es) (hel : es.length ≤ 1000) (hq : ∀ h' a b c d, Rep (Yw 5 s es) [a, b, c, d] → h.next ≤ h'.next → (∀ l, l < h.next → hget h'.mem l = hget h.mem l) → Q (.tup [.agg [a, b, c, d], .v (.bool true)]) h') : VC E T 14 [.int .i64 (.ofNat 5), .str s, Le] h Q R := by
  have hin : Z0i (.ofNat 5) = true := rfl
  have hsm := Zq he
  have ho := Y3 he
  have hc := ZF he
  unfold Yw at hq
  refine YK h14 ?_
  unfold YI
  repeat' (with_reducible (first | refine ZA ?_ | refine ZB ?_ | refine ZQ ?_ | refine ZP ?_ | refine ZD ?_ | refine Zt ?_ | refine ZC ?_ | refine ZR ?_ | refine ZO ?_ | refine ZG ?_ | refine ZS ?_ | refine Zdb h20 ?_ | refine Zdc h19 ?_ | refine Zda h25 ?_ | refine Zem h21 ?_ ?_ ?_ | refine Zen h18 ?_ ?_ ?_ | refine Z2y h6 ?_ | refine Zoc h37 h27 ?_ | refine vc28_5 h20 h19 h25 h21 h18 h38 h39 h28 hr hs he hel ?_ | simp (maxSteps := 2000000) (disch := first | assumption | exact Yt (by omega) | omega | (simp only [Zm, Zl, List.length_cons, List.length_nil, List.length_append, List.length_take, List.length_drop]; omega) | fail) only [go_sem, -Int.reduceOfNat, *, Wm] | ((first | refine Yh ?_ ?_ | refine ZV ?_ ?_ | refine Yg ?_ ?_ | refine ZT ?_ ?_ | refine ZU ?_ ?_ | refine ZH ?_ ?_) <;> intro _) | (show Q _ _; refine hq _ _ _ _ _ ?_ ?_ ?_) | exact Zq (by assumption) | (refine Yl ?_ (by simp) (by simp)) | (refine Zp ?_ ?_) | exact Y1 | exact ZZ | (refine ZW (by first | omega | simp) ?_) | assumption | exact trivial | (show _ < _; omega) | (show _ ≤ _; omega) | (show ¬ (_ : Nat) = _; omega) | (show (_ : Nat) ≠ _; omega) | (show (_ : Nat) = _; omega) | (intro _; intros) | (refine ⟨_, by assumption, ?_⟩) | refine And.intro ?_ ?_))
theorem vc14_8 (h20 : T 20 = Zh0) (h19 : T 19 = Zh1) (h25 : T 25 = Zhw) (h21 : T 21 = Zju) (h18 : T 18 = Zjv) (h38 : T 38 = Zlr) (h39 : T 39 = Zlq) (h28 : T 28 = Zmo) (h6 : T 6 = q6) (h37 : T 37 = Zt2) (h27 : T 27 = Zvw) (h14 : T 14 = Zxe) (hr : T 60 = Wv Y4) {s : List Nat} (hs : s.length ≤ 400) {es : List V} {Le : D} (he : XK Rep 4 Le es) (hel : es.length ≤ 1000) (hq : ∀ h' a b c d, Rep (Yw 8 s es) [a, b, c, d] → h.next ≤ h'.next → (∀ l, l < h.next → hget h'.mem l = hget h.mem l) → Q (.tup [.agg [a, b, c, d], .v (.bool true)]) h') : VC E T 14 [.int .i64 (.ofNat 8), .str s, Le] h Q R := by
  have hin : Z0i (.ofNat 8) = true := rfl
  have hsm := Zq he
  have ho := Y3 he
  have hc := ZF he
  unfold Yw at hq
  refine YK h14 ?_
  unfold YI
  repeat' (with_reducible (first | refine ZA ?_ | refine ZB ?_ | refine ZQ ?_ | refine ZP ?_ | refine ZD ?_ | refine Zt ?_ | refine ZC ?_ | refine ZR ?_ | refine ZO ?_ | refine ZG ?_ | refine ZS ?_ | refine Zdb h20 ?_ | refine Zdc h19 ?_ | refine Zda h25 ?_ | refine Zem h21 ?_ ?_ ?_ | refine Zen h18 ?_ ?_ ?_ | refine Z2y h6 ?_ | refine Zoc h37 h27 ?_ | refine vc28_8 h20 h19 h25 h21 h18 h38 h39 h28 hr hs he hel ?_ | simp (maxSteps := 2000000) (disch := first | assumption | exact Yt (by omega) | omega | (simp only [Zm, Zl, List.length_cons, List.length_nil, List.length_append, List.length_take, List.length_drop]; omega) | fail) only [go_sem, -Int.reduceOfNat, *, Wm] | ((first | refine Yh ?_ ?_ | refine ZV ?_ ?_ | refine Yg ?_ ?_ | refine ZT ?_ ?_ | refine ZU ?_ ?_ | refine ZH ?_ ?_) <;> intro _) | (show Q _ _; refine hq _ _ _ _ _ ?_ ?_ ?_) | exact Zq (by assumption) | (refine Yl ?_ (by simp) (by simp)) | (refine Zp ?_ ?_) | exact Y1 | exact ZZ | (refine ZW (by first | omega | simp) ?_) | assumption | exact trivial | (show _ < _; omega) | (show _ ≤ _; omega) | (show ¬ (_ : Nat) = _; omega) | (show (_ : Nat) ≠ _; omega) | (show (_ : Nat) = _; omega) | (intro _; intros) | (refine ⟨_, by assumption, ?_⟩) | refine And.intro ?_ ?_))
theorem Z7h (h20 : T 20 = Zh0) (h19 : T 19 = Zh1) (h25 : T 25 = Zhw) (h21 : T 21 = Zju) (h18 : T 18 = Zjv) (h38 : T 38 = Zlr) (h39 : T 39 = Zlq) (h28 : T 28 = Zmo) (h6 : T 6 = q6) (h37 : T 37 = Zt2) (h27 : T 27 = Zvw) (h14 : T 14 = Zxe) (hr : T 60 = Wv Y4) {s : List Nat} (hs : s.length ≤ 400) {es : List V} {Le : D} (he : XK Rep 4 Le es) (hel : es.length ≤ 1000) (hq : ∀ h' a b c d, Rep (Yw 11 s es) [a, b, c, d] → h.next ≤ h'.next → (∀ l, l < h.next → hget h'.mem l = hget h.mem l) → Q (.tup [.agg [a, b, c, d], .v (.bool true)]) h') : VC E T 14 [.int .i64 (.ofNat 11), .str s, Le] h Q R := by
  have hin : Z0i (.ofNat 11) = true := rfl
  have hsm := Zq he
  have ho := Y3 he
  have hc := ZF he
  unfold Yw at hq
  refine YK h14 ?_
  unfold YI
  repeat' (with_reducible (first | refine ZA ?_ | refine ZB ?_ | refine ZQ ?_ | refine ZP ?_ | refine ZD ?_ | refine Zt ?_ | refine ZC ?_ | refine ZR ?_ | refine ZO ?_ | refine ZG ?_ | refine ZS ?_ | refine Zdb h20 ?_ | refine Zdc h19 ?_ | refine Zda h25 ?_ | refine Zem h21 ?_ ?_ ?_ | refine Zen h18 ?_ ?_ ?_ | refine Z2y h6 ?_ | refine Zoc h37 h27 ?_ | refine Z65 h20 h19 h25 h21 h18 h38 h39 h28 hr hs he hel ?_ | simp (maxSteps := 2000000) (disch := first | assumption | exact Yt (by omega) | omega | (simp only [Zm, Zl, List.length_cons, List.length_nil, List.length_append, List.length_take, List.length_drop]; omega) | fail) only [go_sem, -Int.reduceOfNat, *, Wm] | ((first | refine Yh ?_ ?_ | refine ZV ?_ ?_ | refine Yg ?_ ?_ | refine ZT ?_ ?_ | refine ZU ?_ ?_ | refine ZH ?_ ?_) <;> intro _) | (show Q _ _; refine hq _ _ _ _ _ ?_ ?_ ?_) | exact Zq (by assumption) | (refine Yl ?_ (by simp) (by simp)) | (refine Zp ?_ ?_) | exact Y1 | exact ZZ | (refine ZW (by first | omega | simp) ?_) | assumption | exact trivial | (show _ < _; omega) | (show _ ≤ _; omega) | (show ¬ (_ : Nat) = _; omega) | (show (_ : Nat) ≠ _; omega) | (show (_ : Nat) = _; omega) | (intro _; intros) | (refine ⟨_, by assumption, ?_⟩) | refine And.intro ?_ ?_))
theorem Z7g (h20 : T 20 = Zh0) (h19 : T 19 = Zh1) (h25 : T 25 = Zhw) (h21 : T 21 = Zju) (h18 : T 18 = Zjv) (h38 : T 38 = Zlr) (h39 : T 39 = Zlq) (h28 : T 28 = Zmo) (h6 : T 6 = q6) (h37 : T 37 = Zt2) (h27 : T 27 = Zvw) (h14 : T 14 = Zxe) (hr : T 60 = Wv Y4) {s : List Nat} (hs : s.length ≤ 400) {es : List V} {Le : D} (he : XK Rep 4 Le es) (hel : es.length ≤ 1000) (hq : ∀ h' a b c d, Rep (Yw 13 s es) [a, b, c, d] → h.next ≤ h'.next → (∀ l, l < h.next → hget h'.mem l = hget h.mem l) → Q (.tup [.agg [a, b, c, d], .v (.bool true)]) h') : VC E T 14 [.int .i64 (.ofNat 13), .str s, Le] h Q R := by
  have hin : Z0i (.ofNat 13) = true := rfl
  have hsm := Zq he
  have ho := Y3 he
  have hc := ZF he
  unfold Yw at hq
  refine YK h14 ?_
  unfold YI
  repeat' (with_reducible (first | refine ZA ?_ | refine ZB ?_ | refine ZQ ?_ | refine ZP ?_ | refine ZD ?_ | refine Zt ?_ | refine ZC ?_ | refine ZR ?_ | refine ZO ?_ | refine ZG ?_ | refine ZS ?_ | refine Zdb h20 ?_ | refine Zdc h19 ?_ | refine Zda h25 ?_ | refine Zem h21 ?_ ?_ ?_ | refine Zen h18 ?_ ?_ ?_ | refine Z2y h6 ?_ | refine Zoc h37 h27 ?_ | refine Z64 h20 h19 h25 h21 h18 h38 h39 h28 hr hs he hel ?_ | simp (maxSteps := 2000000) (disch := first | assumption | exact Yt (by omega) | omega | (simp only [Zm, Zl, List.length_cons, List.length_nil, List.length_append, List.length_take, List.length_drop]; omega) | fail) only [go_sem, -Int.reduceOfNat, *, Wm] | ((first | refine Yh ?_ ?_ | refine ZV ?_ ?_ | refine Yg ?_ ?_ | refine ZT ?_ ?_ | refine ZU ?_ ?_ | refine ZH ?_ ?_) <;> intro _) | (show Q _ _; refine hq _ _ _ _ _ ?_ ?_ ?_) | exact Zq (by assumption) | (refine Yl ?_ (by simp) (by simp)) | (refine Zp ?_ ?_) | exact Y1 | exact ZZ | (refine ZW (by first | omega | simp) ?_) | assumption | exact trivial | (show _ < _; omega) | (show _ ≤ _; omega) | (show ¬ (_ : Nat) = _; omega) | (show (_ : Nat) ≠ _; omega) | (show (_ : Nat) = _; omega) | (intro _; intros) | (refine ⟨_, by assumption, ?_⟩) | refine And.intro ?_ ?_))
theorem Z7f (h20 : T 20 = Zh0) (h19 : T 19 = Zh1) (h25 : T 25 = Zhw) (h21 : T 21 = Zju) (h18 : T 18 = Zjv) (h38 : T 38 = Zlr) (h39 : T 39 = Zlq) (h28 : T 28 = Zmo) (h6 : T 6 = q6) (h37 : T 37 = Zt2) (h27 : T 27 = Zvw) (h14 : T 14 = Zxe) (hr : T 60 = Wv Y4) {s : List Nat} (hs : s.length ≤ 400) {es : List V} {Le : D} (he : XK Rep 4 Le es) (hel : es.length ≤ 1000) (hq : ∀ h' a b c d, Rep (Yw 15 s es) [a, b, c, d] → h.next ≤ h'.next → (∀ l, l < h.next → hget h'.mem l = hget h.mem l) → Q (.tup [.agg [a, b, c, d], .v (.bool true)]) h') : VC E T 14 [.int .i64 (.ofNat 15), .str s, Le] h Q R := by
  have hin : Z0i (.ofNat 15) = true := rfl
  have hsm := Zq he
  have ho := Y3 he
  have hc := ZF he
  unfold Yw at hq
  refine YK h14 ?_
  unfold YI
  repeat' (with_reducible (first | refine ZA ?_ | refine ZB ?_ | refine ZQ ?_ | refine ZP ?_ | refine ZD ?_ | refine Zt ?_ | refine ZC ?_ | refine ZR ?_ | refine ZO ?_ | refine ZG ?_ | refine ZS ?_ | refine Zdb h20 ?_ | refine Zdc h19 ?_ | refine Zda h25 ?_ | refine Zem h21 ?_ ?_ ?_ | refine Zen h18 ?_ ?_ ?_ | refine Z2y h6 ?_ | refine Zoc h37 h27 ?_ | refine Z63 h20 h19 h25 h21 h18 h38 h39 h28 hr hs he hel ?_ | simp (maxSteps := 2000000) (disch := first | assumption | exact Yt (by omega) | omega | (simp only [Zm, Zl, List.length_cons, List.length_nil, List.length_append, List.length_take, List.length_drop]; omega) | fail) only [go_sem, -Int.reduceOfNat, *, Wm] | ((first | refine Yh ?_ ?_ | refine ZV ?_ ?_ | refine Yg ?_ ?_ | refine ZT ?_ ?_ | refine ZU ?_ ?_ | refine ZH ?_ ?_) <;> intro _) | (show Q _ _; refine hq _ _ _ _ _ ?_ ?_ ?_) | exact Zq (by assumption) | (refine Yl ?_ (by simp) (by simp)) | (refine Zp ?_ ?_) | exact Y1 | exact ZZ | (refine ZW (by first | omega | simp) ?_) | assumption | exact trivial | (show _ < _; omega) | (show _ ≤ _; omega) | (show ¬ (_ : Nat) = _; omega) | (show (_ : Nat) ≠ _; omega) | (show (_ : Nat) = _; omega) | (intro _; intros) | (refine ⟨_, by assumption, ?_⟩) | refine And.intro ?_ ?_))
theorem Z7e (h20 : T 20 = Zh0) (h19 : T 19 = Zh1) (h25 : T 25 = Zhw) (h21 : T 21 = Zju) (h18 : T 18 = Zjv) (h38 : T 38 = Zlr) (h39 : T 39 = Zlq) (h28 : T 28 = Zmo) (h6 : T 6 = q6) (h37 : T 37 = Zt2) (h27 : T 27 = Zvw) (h14 : T 14 = Zxe) (hr : T 60 = Wv Y4) {s : List Nat} (hs : s.length ≤ 400) {es : List V} {Le : D} (he : XK Rep 4 Le es) (hel : es.length ≤ 1000) (hq : ∀ h' a b c d, Rep (Yw 20 s es) [a, b, c, d] → h.next ≤ h'.next → (∀ l, l < h.next → hget h'.mem l = hget h.mem l) → Q (.tup [.agg [a, b, c, d], .v (.bool true)]) h') : VC E T 14 [.int .i64 (.ofNat 20), .str s, Le] h Q R := by
  have hin : Z0i (.ofNat 20) = true := rfl
  have hsm := Zq he
  have ho := Y3 he
  have hc := ZF he
  unfold Yw at hq
  refine YK h14 ?_
  unfold YI
  repeat' (with_reducible (first | refine ZA ?_ | refine ZB ?_ | refine ZQ ?_ | refine ZP ?_ | refine ZD ?_ | refine Zt ?_ | refine ZC ?_ | refine ZR ?_ | refine ZO ?_ | refine ZG ?_ | refine ZS ?_ | refine Zdb h20 ?_ | refine Zdc h19 ?_ | refine Zda h25 ?_ | refine Zem h21 ?_ ?_ ?_ | refine Zen h18 ?_ ?_ ?_ | refine Z2y h6 ?_ | refine Zoc h37 h27 ?_ | refine Z62 h20 h19 h25 h21 h18 h38 h39 h28 hr hs he hel ?_ | simp (maxSteps := 2000000) (disch := first | assumption | exact Yt (by omega) | omega | (simp only [Zm, Zl, List.length_cons, List.length_nil, List.length_append, List.length_take, List.length_drop]; omega) | fail) only [go_sem, -Int.reduceOfNat, *, Wm] | ((first | refine Yh ?_ ?_ | refine ZV ?_ ?_ | refine Yg ?_ ?_ | refine ZT ?_ ?_ | refine ZU ?_ ?_ | refine ZH ?_ ?_) <;> intro _) | (show Q _ _; refine hq _ _ _ _ _ ?_ ?_ ?_) | exact Zq (by assumption) | (refine Yl ?_ (by simp) (by simp)) | (refine Zp ?_ ?_) | exact Y1 | exact ZZ | (refine ZW (by first | omega | simp) ?_) | assumption | exact trivial | (show _ < _; omega) | (show _ ≤ _; omega) | (show ¬ (_ : Nat) = _; omega) | (show (_ : Nat) ≠ _; omega) | (show (_ : Nat) = _; omega) | (intro _; intros) | (refine ⟨_, by assumption, ?_⟩) | refine And.intro ?_ ?_))
theorem Z7d (h20 : T 20 = Zh0) (h19 : T 19 = Zh1) (h25 : T 25 = Zhw) (h21 : T 21 = Zju) (h18 : T 18 = Zjv) (h38 : T 38 = Zlr) (h39 : T 39 = Zlq) (h28 : T 28 = Zmo) (h6 : T 6 = q6) (h37 : T 37 = Zt2) (h27 : T 27 = Zvw) (h14 : T 14 = Zxe) (hr : T 60 = Wv Y4) {s : List Nat} (hs : s.length ≤ 400) {es : List V} {Le : D} (he : XK Rep 4 Le es) (hel : es.length ≤ 1000) (hq : ∀ h' a b c d, Rep (Yw 24 s es) [a, b, c, d] → h.next ≤ h'.next → (∀ l, l < h.next → hget h'.mem l = hget h.mem l) → Q (.tup [.agg [a, b, c, d], .v (.bool true)]) h') : VC E T 14 [.int .i64 (.ofNat 24), .str s, Le] h Q R := by
  have hin : Z0i (.ofNat 24) = true := rfl
  have hsm := Zq he
  have ho := Y3 he
  have hc := ZF he
  unfold Yw at hq
  refine YK h14 ?_
  unfold YI
  repeat' (with_reducible (first | refine ZA ?_ | refine ZB ?_ | refine ZQ ?_ | refine ZP ?_ | refine ZD ?_ | refine Zt ?_ | refine ZC ?_ | refine ZR ?_ | refine ZO ?_ | refine ZG ?_ | refine ZS ?_ | refine Zdb h20 ?_ | refine Zdc h19 ?_ | refine Zda h25 ?_ | refine Zem h21 ?_ ?_ ?_ | refine Zen h18 ?_ ?_ ?_ | refine Z2y h6 ?_ | refine Zoc h37 h27 ?_ | refine Z61 h20 h19 h25 h21 h18 h38 h39 h28 hr hs he hel ?_ | simp (maxSteps := 2000000) (disch := first | assumption | exact Yt (by omega) | omega | (simp only [Zm, Zl, List.length_cons, List.length_nil, List.length_append, List.length_take, List.length_drop]; omega) | fail) only [go_sem, -Int.reduceOfNat, *, Wm] | ((first | refine Yh ?_ ?_ | refine ZV ?_ ?_ | refine Yg ?_ ?_ | refine ZT ?_ ?_ | refine ZU ?_ ?_ | refine ZH ?_ ?_) <;> intro _) | (show Q _ _; refine hq _ _ _ _ _ ?_ ?_ ?_) | exact Zq (by assumption) | (refine Yl ?_ (by simp) (by simp)) | (refine Zp ?_ ?_) | exact Y1 | exact ZZ | (refine ZW (by first | omega | simp) ?_) | assumption | exact trivial | (show _ < _; omega) | (show _ ≤ _; omega) | (show ¬ (_ : Nat) = _; omega) | (show (_ : Nat) ≠ _; omega) | (show (_ : Nat) = _; omega) | (intro _; intros) | (refine ⟨_, by assumption, ?_⟩) | refine And.intro ?_ ?_))
theorem Z7c (h20 : T 20 = Zh0) (h19 : T 19 = Zh1) (h25 : T 25 = Zhw) (h21 : T 21 = Zju) (h18 : T 18 = Zjv) (h38 : T 38 = Zlr) (h39 : T 39 = Zlq) (h28 : T 28 = Zmo) (h6 : T 6 = q6) (h37 : T 37 = Zt2) (h27 : T 27 = Zvw) (h14 : T 14 = Zxe) (hr : T 60 = Wv Y4) {s : List Nat} (hs : s.length ≤ 400) {es : List V} {Le : D} (he : XK Rep 4 Le es) (hel : es.length ≤ 1000) {k : Int} (hk : Z0i k = false) (hq : ∀ h', h.next ≤ h'.next → (∀ l, l < h.next → hget h'.mem l = hget h.mem l) → Q (.tup [.agg [.int .i64 (.ofNat 0), .int .u64 (.ofNat 0), .str [], .v (.slice none 0 0)], .v (.bool false)]) h') : VC E T 14 [.int .i64 k, .str s, Le] h Q R := by
  refine YK h14 ?_
  unfold YI
  repeat' (with_reducible (first | refine ZA ?_ | refine ZB ?_ | refine ZQ ?_ | refine ZP ?_ | refine ZD ?_ | refine Zt ?_ | refine ZC ?_ | refine ZR ?_ | refine ZO ?_ | refine ZG ?_ | refine ZS ?_ | refine Zdb h20 ?_ | refine Zdc h19 ?_ | refine Zda h25 ?_ | refine Zem h21 ?_ ?_ ?_ | refine Zen h18 ?_ ?_ ?_ | refine Z2y h6 ?_ | refine Zoc h37 h27 ?_ | simp (maxSteps := 2000000) (disch := first | assumption | omega | (simp only [Zm, Zl, List.length_cons, List.length_nil, List.length_append, List.length_take, List.length_drop]; omega) | fail) only [go_sem, -Int.reduceOfNat, *] | ((first | refine Yh ?_ ?_ | refine ZV ?_ ?_ | refine Yg ?_ ?_ | refine ZT ?_ ?_ | refine ZU ?_ ?_ | refine ZH ?_ ?_) <;> intro _) | (show Q _ _; refine hq _ ?_ ?_) | assumption | exact trivial | (show _ < _; omega) | (show _ ≤ _; omega) | (show ¬ (_ : Nat) = _; omega) | (show (_ : Nat) ≠ _; omega) | (show (_ : Nat) = _; omega) | (intro _; intros) | (refine ⟨_, by assumption, ?_⟩) | refine And.intro ?_ ?_))
end
end Run
end
end Go.Abs
