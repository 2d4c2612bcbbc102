/- The document's message, by its kind: walks of the program. -/
import Derived.Test.YtlkjicigmhhjbaaGreatDoorTlC
set_option linter.unusedVariables false
set_option linter.unusedSimpArgs false
namespace Go.Abs
noncomputable section
namespace Run
variable {E : Env} {T : Nat → ZE}
set_option maxHeartbeats 4000000
set_option maxRecDepth 100000
theorem Zaa {G : Prop} (g : G := by
  repeat' (with_reducible (first | refine ZA ?_ | refine ZB ?_ | refine ZQ ?_ | refine ZP ?_ | refine ZD ?_ | refine Zt ?_ | refine ZC ?_ | refine ZR ?_ | refine ZO ?_ | refine ZG ?_ | refine ZS ?_ | refine Zud h22 ?_ | refine Zua h26 ?_ | refine Zuc h23 ?_ ?_ ?_ | refine Zub h24 ?_ ?_ ?_ | simp (maxSteps := 2000000) (disch := first | assumption | exact Yt (by omega) | omega | (simp only [Zm, Zl, List.length_cons, List.length_nil, List.length_append, List.length_take, List.length_drop]; omega) | fail) only [go_sem, -Int.reduceOfNat, *, Z6m, Wm] | ((first | refine Yh ?_ ?_ | refine ZV ?_ ?_ | refine Yg ?_ ?_ | refine ZT ?_ ?_ | refine ZU ?_ ?_ | refine ZH ?_ ?_) <;> intro _) | (show Q _ _; refine hq _ _ _ _ _ ?_ ?_ ?_) | exact Zq (by assumption) | (refine Yl ?_ (by simp) (by simp)) | (refine Zp ?_ ?_) | exact Y1 | exact ZZ | (refine ZW (by first | omega | simp) ?_) | assumption | exact trivial | (show _ < _; omega) | (show _ ≤ _; omega) | (show ¬ (_ : Nat) = _; omega) | (show (_ : Nat) ≠ _; omega) | (show (_ : Nat) = _; omega) | (intro _; intros) | (refine ⟨_, by assumption, ?_⟩) | refine And.intro ?_ ?_))) : G := g
theorem Ztd {G : Prop} (g : G := by
  repeat' (with_reducible (first | refine ZA ?_ | refine ZB ?_ | refine ZQ ?_ | refine ZP ?_ | refine ZD ?_ | refine Zt ?_ | refine ZC ?_ | refine ZR ?_ | refine ZO ?_ | refine ZG ?_ | refine ZS ?_ | refine Zud h22 ?_ | refine Zua h26 ?_ | refine Zuc h23 ?_ ?_ ?_ | refine Zub h24 ?_ ?_ ?_ | simp (maxSteps := 2000000) (disch := first | assumption | exact Yt (by omega) | omega | (simp only [Zm, Zl, List.length_cons, List.length_nil, List.length_append, List.length_take, List.length_drop]; omega) | fail) only [go_sem, -Int.reduceOfNat, *, Z6f] | ((first | refine Yh ?_ ?_ | refine ZV ?_ ?_ | refine Yg ?_ ?_ | refine ZT ?_ ?_ | refine ZU ?_ ?_ | refine ZH ?_ ?_) <;> intro _) | (refine hq _ _ (rdy_mk ?_ ?_ ?_ ?_ ?_ ?_ ?_ ?_ ?_ ?_ ?_ ?_ ?_ ?_ ?_ ?_) ?_ ?_) | exact ⟨_, rfl⟩ | assumption | exact trivial | (show _ < _; omega) | (show _ ≤ _; omega) | (show ¬ (_ : Nat) = _; omega) | (show (_ : Nat) ≠ _; omega) | (show (_ : Nat) = _; omega) | (intro _; intros) | (refine ⟨_, by assumption, ?_⟩) | refine And.intro ?_ ?_))) : G := g
attribute [local go_sem] Zny Zib Zn1 Zh9 Zih Zh8 Zie Znx Zid Zic Znw Zbi Zij Zbg Zif Zeg Zbh Vh Zeh Znz Zil Zef Zig Zii Zik Zei Zbf Zej Zn0 Zf5 Zf4 Zia Zjw Zjx Zn5 Zoa Zim Zir Zip Zbk Zbj Vi Zio Zin Zn2 Zek Zit Ziq Zis Zel Zn8 Zn6 Zn9 Zn4 Zjz Zn7 Zj0 Zob Zg5 Zj1 Zof Zoe Zoh Ziu Zog Zxo Zxp Zxm Zxn Zue Zuf Zjc Zjb Zjd Zjj Zji Zjk Zpw Zpv Zfc Zfd Zfb Zot Zkn Zko Zkm Ze9 Zi5 Zby Ze6 Ze7 Zbz Zb0 Zi8 Zi7 Zi6 Zbv Ux Zc1 Zi2 Zo8 Zv4 Z2a UA Uz Zkj Zpi Zb1 Ze5 WS We UD Vp U5 patch Vn Vo Uw Uv Zcg Zcf VL VM Zbe Zfk Zcb UE Vs Uy Zb2 Vm Ws Vq mem_cons Zpq Zo7 Uo Option.map_some Option.map_none Zfa Zgm Zgo Zgn Zpk Zhc Zdu Zkk Zbx Zdw UK UF UL Zch UG UJ UH Vt UI Ze2 Zbt Ze4 Zez Zi4 Ze0 Ze3 Ze1 Zbu Zbs ZX U6 Vc Zfw WW XH Zp3 Zp2 Z51 V5 Zaf Zfo Zc3 Vk Uq Vr WT Wp UN Zba Zck List.drop_succ_cons List.drop_zero List.drop_nil List.take_succ_cons List.take_zero List.take_nil List.length_cons List.length_nil List.length_append List.cons_append List.nil_append Nat.reduceAdd Nat.reduceEqDiff Nat.reduceLeDiff Nat.reduceLT List.cons.injEq reduceCtorEq eq_self not_true_eq_false not_false_eq_true and_false false_and true_or or_true decide_true decide_false Bool.and_self Bool.and_true Bool.true_and Bool.true_or Bool.or_true Bool.false_or Bool.or_false Bool.false_and Bool.and_false Bool.not_true Bool.not_false cond_true cond_false true_and and_true Zg4 Zpg Zpz reduceIte Nat.add_zero Nat.zero_add Nat.add_sub_cancel Nat.reduceMul Nat.reduceSub Nat.reduceBEq List.map_cons List.map_nil Zm Zl WV YG Xu Yn Zj2 Zzl Yv Zdq Up Zj8 Zj7 Zgc Zgb and_assoc exists_and_left D.str.injEq Nat.lt_irrefl Nat.not_lt_zero true_implies false_implies implies_true forall_const ge_iff_le gt_iff_lt Nat.sub_zero List.append_assoc Option.some.injEq AObj.cells.injEq D.int.injEq D.ptr.injEq Int.ofNat.injEq exists_eq_left' D.v.injEq Value.bool.injEq D.agg.injEq Nat.mul_one Zno Zsw Zzj Zhb Zn3 Znk
section
variable {h : H} {Q : D → H → Prop} {R : Uk}
def Za3 : FC := (Z0 (Z0 (Z1 <| fo (Yf (Gt 0)) (St 76) <| Z2)
 (Zc 2 (Z0 (Z1<|fo (Zd ZX .eql 3 (.tmp 76) (.const (.int .i64 (.ofNat 1))) (Gt 76) (kD (.int .i64 (.ofNat 1)))) (St 79)<|fo (Yf (Gt 79)) (St 78)<|Z2)
 (Z7 (Gt 78) (Z0 (Z1<|fo (Zi 4 (Gt 20)) (St 80)<|fo (Zn 33 1 [(.int .i64 (.ofNat 0)),(.int .u64 (.ofNat 0)),(.str []),(.v (.slice none 0 0))] [(0,4,(Gt 80))]) (St 81)<|fo (Z9 23 [(Gt 81)]) (St 82)<|fo (Za 33 [(.int .i64 (.ofNat 0)),(.int .u64 (.ofNat 0)),(.str []),(.v (.slice none 0 0))]) (St 22)<|fo (Ze 4 (Gt 22) (Gt 82)) p0<|Z2)
 (Z0 (Z1<|fo (Z9 26 [(kD (.str [0]))]) (St 83)<|fo (Za 33 [(.int .i64 (.ofNat 0)),(.int .u64 (.ofNat 0)),(.str []),(.v (.slice none 0 0))]) (St 23)<|fo (Ze 4 (Gt 23) (Gt 83)) p0<|Z2)
 (Z1<|fo (Zi 4 (Gt 19)) (St 84)<|fo (Zi 4 (Gt 11)) (St 85)<|fo (Zi 4 (Gt 8)) (St 86)<|fo (Zi 4 (Gt 17)) (St 87)<|fo (Zi 4 (Gt 8)) (St 88)<|fo (Zi 4 (Gt 22)) (St 89)<|fo (Zi 4 (Gt 8)) (St 90)<|fo (Zi 4 (Gt 23)) (St 91)<|fo (Zi 4 (Gt 8)) (St 92)<|fo (Zi 4 (Gt 15)) (St 93)<|fo (Zn 33 10 [(.int .i64 (.ofNat 0)),(.int .u64 (.ofNat 0)),(.str []),(.v (.slice none 0 0)),(.int .i64 (.ofNat 0)),(.int .u64 (.ofNat 0)),(.str []),(.v (.slice none 0 0)),(.int .i64 (.ofNat 0)),(.int .u64 (.ofNat 0)),(.str []),(.v (.slice none 0 0)),(.int .i64 (.ofNat 0)),(.int .u64 (.ofNat 0)),(.str []),(.v (.slice none 0 0)),(.int .i64 (.ofNat 0)),(.int .u64 (.ofNat 0)),(.str []),(.v (.slice none 0 0)),(.int .i64 (.ofNat 0)),(.int .u64 (.ofNat 0)),(.str []),(.v (.slice none 0 0)),(.int .i64 (.ofNat 0)),(.int .u64 (.ofNat 0)),(.str []),(.v (.slice none 0 0)),(.int .i64 (.ofNat 0)),(.int .u64 (.ofNat 0)),(.str []),(.v (.slice none 0 0)),(.int .i64 (.ofNat 0)),(.int .u64 (.ofNat 0)),(.str []),(.v (.slice none 0 0)),(.int .i64 (.ofNat 0)),(.int .u64 (.ofNat 0)),(.str []),(.v (.slice none 0 0))] [(0,4,(Gt 84)),(4,4,(Gt 85)),(8,4,(Gt 86)),(12,4,(Gt 87)),(16,4,(Gt 88)),(20,4,(Gt 89)),(24,4,(Gt 90)),(28,4,(Gt 91)),(32,4,(Gt 92)),(36,4,(Gt 93))]) (St 94)<|fo (Z9 24 [(Gt 94)]) (St 95)<|fo (Ze 4 (Gt 21) (Gt 95)) p0<|Z2))) (Z0 (Z1<|fo (Zd ZX .eql 3 (.tmp 76) (.const (.int .i64 (.ofNat 2))) (Gt 76) (kD (.int .i64 (.ofNat 2)))) (St 97)<|fo (Yf (Gt 97)) (St 96)<|Z2)
 (Z7 (Gt 96) (Z1<|fo (Zi 4 (Gt 19)) (St 98)<|fo (Zi 4 (Gt 11)) (St 99)<|fo (Zi 4 (Gt 8)) (St 100)<|fo (Zi 4 (Gt 17)) (St 101)<|fo (Zi 4 (Gt 20)) (St 102)<|fo (Zi 4 (Gt 18)) (St 103)<|fo (Zi 4 (Gt 8)) (St 104)<|fo (Zi 4 (Gt 15)) (St 105)<|fo (Zn 33 8 [(.int .i64 (.ofNat 0)),(.int .u64 (.ofNat 0)),(.str []),(.v (.slice none 0 0)),(.int .i64 (.ofNat 0)),(.int .u64 (.ofNat 0)),(.str []),(.v (.slice none 0 0)),(.int .i64 (.ofNat 0)),(.int .u64 (.ofNat 0)),(.str []),(.v (.slice none 0 0)),(.int .i64 (.ofNat 0)),(.int .u64 (.ofNat 0)),(.str []),(.v (.slice none 0 0)),(.int .i64 (.ofNat 0)),(.int .u64 (.ofNat 0)),(.str []),(.v (.slice none 0 0)),(.int .i64 (.ofNat 0)),(.int .u64 (.ofNat 0)),(.str []),(.v (.slice none 0 0)),(.int .i64 (.ofNat 0)),(.int .u64 (.ofNat 0)),(.str []),(.v (.slice none 0 0)),(.int .i64 (.ofNat 0)),(.int .u64 (.ofNat 0)),(.str []),(.v (.slice none 0 0))] [(0,4,(Gt 98)),(4,4,(Gt 99)),(8,4,(Gt 100)),(12,4,(Gt 101)),(16,4,(Gt 102)),(20,4,(Gt 103)),(24,4,(Gt 104)),(28,4,(Gt 105))]) (St 106)<|fo (Z9 24 [(Gt 106)]) (St 107)<|fo (Ze 4 (Gt 21) (Gt 107)) p0<|Z2) (Z0 (Z1<|fo (Zd ZX .eql 3 (.tmp 76) (.const (.int .i64 (.ofNat 4))) (Gt 76) (kD (.int .i64 (.ofNat 4)))) (St 109)<|fo (Yf (Gt 109)) (St 108)<|Z2)
 (Z7 (Gt 108) (Z0 (Z1<|fo (Z9 22 [(kD (.int .u64 (.ofNat 7200)))]) (St 110)<|fo (Za 33 [(.int .i64 (.ofNat 0)),(.int .u64 (.ofNat 0)),(.str []),(.v (.slice none 0 0))]) (St 24)<|fo (Ze 4 (Gt 24) (Gt 110)) p0<|Z2)
 (Z1<|fo (Zi 4 (Gt 24)) (St 111)<|fo (Zi 4 (Gt 18)) (St 112)<|fo (Zi 4 (Gt 8)) (St 113)<|fo (Zi 4 (Gt 13)) (St 114)<|fo (Zi 4 (Gt 8)) (St 115)<|fo (Zi 4 (Gt 14)) (St 116)<|fo (Zi 4 (Gt 8)) (St 117)<|fo (Zi 4 (Gt 15)) (St 118)<|fo (Zn 33 8 [(.int .i64 (.ofNat 0)),(.int .u64 (.ofNat 0)),(.str []),(.v (.slice none 0 0)),(.int .i64 (.ofNat 0)),(.int .u64 (.ofNat 0)),(.str []),(.v (.slice none 0 0)),(.int .i64 (.ofNat 0)),(.int .u64 (.ofNat 0)),(.str []),(.v (.slice none 0 0)),(.int .i64 (.ofNat 0)),(.int .u64 (.ofNat 0)),(.str []),(.v (.slice none 0 0)),(.int .i64 (.ofNat 0)),(.int .u64 (.ofNat 0)),(.str []),(.v (.slice none 0 0)),(.int .i64 (.ofNat 0)),(.int .u64 (.ofNat 0)),(.str []),(.v (.slice none 0 0)),(.int .i64 (.ofNat 0)),(.int .u64 (.ofNat 0)),(.str []),(.v (.slice none 0 0)),(.int .i64 (.ofNat 0)),(.int .u64 (.ofNat 0)),(.str []),(.v (.slice none 0 0))] [(0,4,(Gt 111)),(4,4,(Gt 112)),(8,4,(Gt 113)),(12,4,(Gt 114)),(16,4,(Gt 115)),(20,4,(Gt 116)),(24,4,(Gt 117)),(28,4,(Gt 118))]) (St 119)<|fo (Z9 24 [(Gt 119)]) (St 120)<|fo (Ze 4 (Gt 21) (Gt 120)) p0<|Z2)) (Z0 (Z1<|fo (Zd ZX .eql 3 (.tmp 76) (.const (.int .i64 (.ofNat 5))) (Gt 76) (kD (.int .i64 (.ofNat 5)))) (St 122)<|fo (Yf (Gt 122)) (St 121)<|Z2)
 (Z7 (Gt 121) (Z1<|fo (Zi 4 (Gt 8)) (St 123)<|fo (Ze 4 (Gt 21) (Gt 123)) p0<|Z2) (Z0 (Z1<|fo (Zd ZX .eql 3 (.tmp 76) (.const (.int .i64 (.ofNat 8))) (Gt 76) (kD (.int .i64 (.ofNat 8)))) (St 125)<|fo (Yf (Gt 125)) (St 124)<|Z2)
 (Z7 (Gt 124) (Z1<|fo (Zi 4 (Gt 16)) (St 126)<|fo (Ze 4 (Gt 21) (Gt 126)) p0<|Z2) (Z0 (Z1<|fo (Zd ZX .eql 3 (.tmp 76) (.const (.int .i64 (.ofNat 11))) (Gt 76) (kD (.int .i64 (.ofNat 11)))) (St 128)<|fo (Yf (Gt 128)) (St 127)<|Z2)
 (Z7 (Gt 127) (Z0 (Z1<|fo (Zi 4 (Gt 8)) (St 129)<|fo (Zi 4 (Gt 14)) (St 130)<|fo (Zi 4 (Gt 16)) (St 131)<|fo (Zn 33 3 [(.int .i64 (.ofNat 0)),(.int .u64 (.ofNat 0)),(.str []),(.v (.slice none 0 0)),(.int .i64 (.ofNat 0)),(.int .u64 (.ofNat 0)),(.str []),(.v (.slice none 0 0)),(.int .i64 (.ofNat 0)),(.int .u64 (.ofNat 0)),(.str []),(.v (.slice none 0 0))] [(0,4,(Gt 129)),(4,4,(Gt 130)),(8,4,(Gt 131))]) (St 132)<|fo (Z9 24 [(Gt 132)]) (St 133)<|fo (Za 33 [(.int .i64 (.ofNat 0)),(.int .u64 (.ofNat 0)),(.str []),(.v (.slice none 0 0))]) (St 25)<|fo (Ze 4 (Gt 25) (Gt 133)) p0<|Z2)
 (Z0 (Z1<|fo (Zi 4 (Gt 25)) (St 134)<|fo (Zn 33 1 [(.int .i64 (.ofNat 0)),(.int .u64 (.ofNat 0)),(.str []),(.v (.slice none 0 0))] [(0,4,(Gt 134))]) (St 135)<|fo (Z9 23 [(Gt 135)]) (St 136)<|fo (Za 33 [(.int .i64 (.ofNat 0)),(.int .u64 (.ofNat 0)),(.str []),(.v (.slice none 0 0))]) (St 26)<|fo (Ze 4 (Gt 26) (Gt 136)) p0<|Z2)
 (Z1<|fo (Zi 4 (Gt 8)) (St 137)<|fo (Zi 4 (Gt 13)) (St 138)<|fo (Zi 4 (Gt 8)) (St 139)<|fo (Zi 4 (Gt 26)) (St 140)<|fo (Zn 33 4 [(.int .i64 (.ofNat 0)),(.int .u64 (.ofNat 0)),(.str []),(.v (.slice none 0 0)),(.int .i64 (.ofNat 0)),(.int .u64 (.ofNat 0)),(.str []),(.v (.slice none 0 0)),(.int .i64 (.ofNat 0)),(.int .u64 (.ofNat 0)),(.str []),(.v (.slice none 0 0)),(.int .i64 (.ofNat 0)),(.int .u64 (.ofNat 0)),(.str []),(.v (.slice none 0 0))] [(0,4,(Gt 137)),(4,4,(Gt 138)),(8,4,(Gt 139)),(12,4,(Gt 140))]) (St 141)<|fo (Z9 24 [(Gt 141)]) (St 142)<|fo (Ze 4 (Gt 21) (Gt 142)) p0<|Z2))) (Z0 (Z1<|fo (Zd ZX .eql 3 (.tmp 76) (.const (.int .i64 (.ofNat 13))) (Gt 76) (kD (.int .i64 (.ofNat 13)))) (St 144)<|fo (Yf (Gt 144)) (St 143)<|Z2)
 (Z7 (Gt 143) (Z1<|fo (Zi 4 (Gt 8)) (St 145)<|fo (Zi 4 (Gt 13)) (St 146)<|fo (Zi 4 (Gt 16)) (St 147)<|fo (Zn 33 3 [(.int .i64 (.ofNat 0)),(.int .u64 (.ofNat 0)),(.str []),(.v (.slice none 0 0)),(.int .i64 (.ofNat 0)),(.int .u64 (.ofNat 0)),(.str []),(.v (.slice none 0 0)),(.int .i64 (.ofNat 0)),(.int .u64 (.ofNat 0)),(.str []),(.v (.slice none 0 0))] [(0,4,(Gt 145)),(4,4,(Gt 146)),(8,4,(Gt 147))]) (St 148)<|fo (Z9 24 [(Gt 148)]) (St 149)<|fo (Ze 4 (Gt 21) (Gt 149)) p0<|Z2) (Z0 (Z1<|fo (Zd ZX .eql 3 (.tmp 76) (.const (.int .i64 (.ofNat 15))) (Gt 76) (kD (.int .i64 (.ofNat 15)))) (St 151)<|fo (Yf (Gt 151)) (St 150)<|Z2)
 (Z7 (Gt 150) (Z0 (Z1<|fo (Z9 22 [(kD (.int .u64 (.ofNat 2052)))]) (St 152)<|fo (Za 33 [(.int .i64 (.ofNat 0)),(.int .u64 (.ofNat 0)),(.str []),(.v (.slice none 0 0))]) (St 27)<|fo (Ze 4 (Gt 27) (Gt 152)) p0<|Z2)
 (Z0 (Z1<|fo (Yf (Gt 1)) (St 153)<|fo (Z9 26 [(Gt 153)]) (St 154)<|fo (Za 33 [(.int .i64 (.ofNat 0)),(.int .u64 (.ofNat 0)),(.str []),(.v (.slice none 0 0))]) (St 28)<|fo (Ze 4 (Gt 28) (Gt 154)) p0<|Z2)
 (Z1<|fo (Zi 4 (Gt 27)) (St 155)<|fo (Zi 4 (Gt 8)) (St 156)<|fo (Zi 4 (Gt 28)) (St 157)<|fo (Zn 33 3 [(.int .i64 (.ofNat 0)),(.int .u64 (.ofNat 0)),(.str []),(.v (.slice none 0 0)),(.int .i64 (.ofNat 0)),(.int .u64 (.ofNat 0)),(.str []),(.v (.slice none 0 0)),(.int .i64 (.ofNat 0)),(.int .u64 (.ofNat 0)),(.str []),(.v (.slice none 0 0))] [(0,4,(Gt 155)),(4,4,(Gt 156)),(8,4,(Gt 157))]) (St 158)<|fo (Z9 24 [(Gt 158)]) (St 159)<|fo (Ze 4 (Gt 21) (Gt 159)) p0<|Z2))) (Z0 (Z1<|fo (Zd ZX .eql 3 (.tmp 76) (.const (.int .i64 (.ofNat 20))) (Gt 76) (kD (.int .i64 (.ofNat 20)))) (St 161)<|fo (Yf (Gt 161)) (St 160)<|Z2)
 (Z7 (Gt 160) (Z1<|fo (Yf (Gt 1)) (St 162)<|fo (Z9 26 [(Gt 162)]) (St 163)<|fo (Ze 4 (Gt 21) (Gt 163)) p0<|Z2) (Z0 (Z1<|fo (Zd ZX .eql 3 (.tmp 76) (.const (.int .i64 (.ofNat 24))) (Gt 76) (kD (.int .i64 (.ofNat 24)))) (St 165)<|fo (Yf (Gt 165)) (St 164)<|Z2)
 (Z7 (Gt 164) (Z1<|fo (Yf (Gt 1)) (St 166)<|fo (u1 Va (Gt 166)) (St 167)<|fo (VI .rem 3 (.tmp 167) (.const (.int .i64 (.ofNat 2))) (Gt 167) (kD (.int .i64 (.ofNat 2)))) (St 168)<|fo (Xq .u64 (Gt 168)) (St 169)<|fo (Z9 22 [(Gt 169)]) (St 170)<|fo (Ze 4 (Gt 21) (Gt 170)) p0<|Z2) (Z0 (Z1<|fo (Zi 4 (Gt 8)) (St 77)<|fo (Ze 4 (Gt 6) (Gt 77)) p0<|fo (Yf (kD (.v (.bool false)))) (St 7)<|Z2)
 Zb)))))))))))))))))))))))
 (Z0 (Z1<|fo (Yf (Gt 0)) (St 171)<|fo (Xq .u64 (Gt 171)) (St 172)<|fo (Z9 22 [(Gt 172)]) (St 173)<|fo (Za 33 [(.int .i64 (.ofNat 0)),(.int .u64 (.ofNat 0)),(.str []),(.v (.slice none 0 0))]) (St 29)<|fo (Ze 4 (Gt 29) (Gt 173)) p0<|Z2)
 (Z0 (Z1<|fo (Zi 4 (Gt 29)) (St 174)<|fo (Zi 4 (Gt 8)) (St 175)<|fo (Zi 4 (Gt 21)) (St 176)<|fo (Zn 33 3 [(.int .i64 (.ofNat 0)),(.int .u64 (.ofNat 0)),(.str []),(.v (.slice none 0 0)),(.int .i64 (.ofNat 0)),(.int .u64 (.ofNat 0)),(.str []),(.v (.slice none 0 0)),(.int .i64 (.ofNat 0)),(.int .u64 (.ofNat 0)),(.str []),(.v (.slice none 0 0))] [(0,4,(Gt 174)),(4,4,(Gt 175)),(8,4,(Gt 176))]) (St 177)<|fo (Z9 24 [(Gt 177)]) (St 178)<|fo (Ze 4 (Gt 6) (Gt 178)) p0<|fo (Yf (kD (.v (.bool true)))) (St 7)<|Z2)
 Zb)))
structure Rdy (k : Int) (s : List Nat) (Le : D) (t : Tr D) (h : H) (hn u : Nat) : Prop where
  g0 : Gt 0 t = .int .i64 k
  g1 : Gt 1 t = .str s
  g6 : Gt 6 t = .ptr hn 0
  n6 : hn < h.next
  m6 : hget h.mem hn = some (.cells 33 [.int .i64 (.ofNat 0), .int .u64 (.ofNat 0), .str [], .v (.slice none 0 0)])
  l8 : ∃ l, Gt 8 t = .ptr l 0 ∧ (hn < l ∧ l < u) ∧ hget h.mem l = some (.cells 33 [.int .i64 (.ofNat 0), .int .u64 (.ofNat 0), .str [], .v (.slice none 0 0)])
  l11 : ∃ l, Gt 11 t = .ptr l 0 ∧ (hn < l ∧ l < u) ∧ hget h.mem l = some (.cells 33 [.int .i64 (.ofNat 2), .int .u64 (.ofNat 0), .str (Zvu s), .v (.slice none 0 0)])
  l13 : ∃ l, Gt 13 t = .ptr l 0 ∧ (hn < l ∧ l < u) ∧ hget h.mem l = some (.cells 33 [.int .i64 (.ofNat 2), .int .u64 (.ofNat 0), .str (Zhk s), .v (.slice none 0 0)])
  l14 : ∃ l, Gt 14 t = .ptr l 0 ∧ (hn < l ∧ l < u) ∧ hget h.mem l = some (.cells 33 [.int .i64 (.ofNat 2), .int .u64 (.ofNat 0), .str (Zf9 s), .v (.slice none 0 0)])
  l15 : ∃ l, Gt 15 t = .ptr l 0 ∧ (hn < l ∧ l < u) ∧ hget h.mem l = some (.cells 33 [.int .i64 (.ofNat 3), .int .u64 (.ofNat 0), .str [], Le])
  l16 : ∃ l, Gt 16 t = .ptr l 0 ∧ (hn < l ∧ l < u) ∧ ∃ id, hget h.mem l = some (.cells 33 [.int .i64 (.ofNat 4), .int .u64 (.ofNat 0), .str [], .sl id 2 [.int .i64 (.ofNat 0), .int .u64 (.ofNat 0), .str [], .v (.slice none 0 0), .int .i64 (.ofNat 3), .int .u64 (.ofNat 0), .str [], Le]])
  l17 : ∃ l, Gt 17 t = .ptr l 0 ∧ (hn < l ∧ l < u) ∧ hget h.mem l = some (.cells 33 [.int .i64 (.ofNat 2), .int .u64 (.ofNat 0), .str [], .v (.slice none 0 0)])
  l18 : ∃ l, Gt 18 t = .ptr l 0 ∧ (hn < l ∧ l < u) ∧ hget h.mem l = some (.cells 33 [.int .i64 (.ofNat 1), .int .u64 (.ofNat 0), .str [], .v (.slice none 0 0)])
  l19 : ∃ l, Gt 19 t = .ptr l 0 ∧ (hn < l ∧ l < u) ∧ hget h.mem l = some (.cells 33 [.int .i64 (.ofNat 1), .int .u64 (.ofNat 771), .str [], .v (.slice none 0 0)])
  l20 : ∃ l, Gt 20 t = .ptr l 0 ∧ (hn < l ∧ l < u) ∧ hget h.mem l = some (.cells 33 [.int .i64 (.ofNat 1), .int .u64 (.ofNat 4865), .str [], .v (.slice none 0 0)])
  l21 : Gt 21 t = .ptr u 0 ∧ (hn < u ∧ u < h.next) ∧ hget h.mem u = some (.cells 33 [.int .i64 (.ofNat 0), .int .u64 (.ofNat 0), .str [], .v (.slice none 0 0)])
theorem sw15_1 (h22 : T 22 = Zhz) (h26 : T 26 = Zhv) (h23 : T 23 = Zhy) (h24 : T 24 = Zhx) {s : List Nat} {es : List V} {Le : D} (he : XK Rep 4 Le es) (hel : es.length ≤ 1000) {t : Tr D} {h : H} {hn u : Nat} {Q : D → H → Prop} {R : Uk} (hr : Rdy (.ofNat 1) s Le t h hn u) (hq : ∀ h' a b c d, Rep (Yw 1 s es) [a, b, c, d] → h.next ≤ h'.next → (∀ l, l < hn → hget h'.mem l = hget h.mem l) → Q (.tup [.agg [a, b, c, d], .v (.bool true)]) h') : VP E T Za3 t h (Zze (fun t h => YH ⟨[.cN 6 4, .t 7], .skip⟩ (act t) h) Q) R := by
  obtain ⟨g0, g1, g6, n6, m6, ⟨l8, p8, ⟨x8, y8⟩, m8⟩, ⟨l11, p11, ⟨x11, y11⟩, m11⟩, ⟨l13, p13, ⟨x13, y13⟩, m13⟩, ⟨l14, p14, ⟨x14, y14⟩, m14⟩, ⟨l15, p15, ⟨x15, y15⟩, m15⟩, ⟨l16, p16, ⟨x16, y16⟩, id16, m16⟩, ⟨l17, p17, ⟨x17, y17⟩, m17⟩, ⟨l18, p18, ⟨x18, y18⟩, m18⟩, ⟨l19, p19, ⟨x19, y19⟩, m19⟩, ⟨l20, p20, ⟨x20, y20⟩, m20⟩, ⟨p21, ⟨x21, y21⟩, m21⟩⟩ := hr
  have hsm := Zq he
  have ho := Y3 he
  have hc := ZF he
  have hm : XK Rep 4 (.sl id16 2 [.int .i64 (.ofNat 0), .int .u64 (.ofNat 0), .str [], .v (.slice none 0 0), .int .i64 (.ofNat 3), .int .u64 (.ofNat 0), .str [], Le]) [Zdm, Zra es] := Yl (Zp ZZ (Zp (ZW (by omega) he) Y1)) rfl (by simp)
  simp only [Yw, XR, Nat.reduceEqDiff, reduceCtorEq, if_true, if_false] at hq
  unfold Za3
  exact Zaa
theorem sw15_2 (h22 : T 22 = Zhz) (h26 : T 26 = Zhv) (h23 : T 23 = Zhy) (h24 : T 24 = Zhx) {s : List Nat} {es : List V} {Le : D} (he : XK Rep 4 Le es) (hel : es.length ≤ 1000) {t : Tr D} {h : H} {hn u : Nat} {Q : D → H → Prop} {R : Uk} (hr : Rdy (.ofNat 2) s Le t h hn u) (hq : ∀ h' a b c d, Rep (Yw 2 s es) [a, b, c, d] → h.next ≤ h'.next → (∀ l, l < hn → hget h'.mem l = hget h.mem l) → Q (.tup [.agg [a, b, c, d], .v (.bool true)]) h') : VP E T Za3 t h (Zze (fun t h => YH ⟨[.cN 6 4, .t 7], .skip⟩ (act t) h) Q) R := by
  obtain ⟨g0, g1, g6, n6, m6, ⟨l8, p8, ⟨x8, y8⟩, m8⟩, ⟨l11, p11, ⟨x11, y11⟩, m11⟩, ⟨l13, p13, ⟨x13, y13⟩, m13⟩, ⟨l14, p14, ⟨x14, y14⟩, m14⟩, ⟨l15, p15, ⟨x15, y15⟩, m15⟩, ⟨l16, p16, ⟨x16, y16⟩, id16, m16⟩, ⟨l17, p17, ⟨x17, y17⟩, m17⟩, ⟨l18, p18, ⟨x18, y18⟩, m18⟩, ⟨l19, p19, ⟨x19, y19⟩, m19⟩, ⟨l20, p20, ⟨x20, y20⟩, m20⟩, ⟨p21, ⟨x21, y21⟩, m21⟩⟩ := hr
  have hsm := Zq he
  have ho := Y3 he
  have hc := ZF he
  have hm : XK Rep 4 (.sl id16 2 [.int .i64 (.ofNat 0), .int .u64 (.ofNat 0), .str [], .v (.slice none 0 0), .int .i64 (.ofNat 3), .int .u64 (.ofNat 0), .str [], Le]) [Zdm, Zra es] := Yl (Zp ZZ (Zp (ZW (by omega) he) Y1)) rfl (by simp)
  simp only [Yw, XR, Nat.reduceEqDiff, reduceCtorEq, if_true, if_false] at hq
  unfold Za3
  exact Zaa
theorem sw15_4 (h22 : T 22 = Zhz) (h26 : T 26 = Zhv) (h23 : T 23 = Zhy) (h24 : T 24 = Zhx) {s : List Nat} {es : List V} {Le : D} (he : XK Rep 4 Le es) (hel : es.length ≤ 1000) {t : Tr D} {h : H} {hn u : Nat} {Q : D → H → Prop} {R : Uk} (hr : Rdy (.ofNat 4) s Le t h hn u) (hq : ∀ h' a b c d, Rep (Yw 4 s es) [a, b, c, d] → h.next ≤ h'.next → (∀ l, l < hn → hget h'.mem l = hget h.mem l) → Q (.tup [.agg [a, b, c, d], .v (.bool true)]) h') : VP E T Za3 t h (Zze (fun t h => YH ⟨[.cN 6 4, .t 7], .skip⟩ (act t) h) Q) R := by
  obtain ⟨g0, g1, g6, n6, m6, ⟨l8, p8, ⟨x8, y8⟩, m8⟩, ⟨l11, p11, ⟨x11, y11⟩, m11⟩, ⟨l13, p13, ⟨x13, y13⟩, m13⟩, ⟨l14, p14, ⟨x14, y14⟩, m14⟩, ⟨l15, p15, ⟨x15, y15⟩, m15⟩, ⟨l16, p16, ⟨x16, y16⟩, id16, m16⟩, ⟨l17, p17, ⟨x17, y17⟩, m17⟩, ⟨l18, p18, ⟨x18, y18⟩, m18⟩, ⟨l19, p19, ⟨x19, y19⟩, m19⟩, ⟨l20, p20, ⟨x20, y20⟩, m20⟩, ⟨p21, ⟨x21, y21⟩, m21⟩⟩ := hr
  have hsm := Zq he
  have ho := Y3 he
  have hc := ZF he
  have hm : XK Rep 4 (.sl id16 2 [.int .i64 (.ofNat 0), .int .u64 (.ofNat 0), .str [], .v (.slice none 0 0), .int .i64 (.ofNat 3), .int .u64 (.ofNat 0), .str [], Le]) [Zdm, Zra es] := Yl (Zp ZZ (Zp (ZW (by omega) he) Y1)) rfl (by simp)
  simp only [Yw, XR, Nat.reduceEqDiff, reduceCtorEq, if_true, if_false] at hq
  unfold Za3
  exact Zaa
theorem sw15_5 (h22 : T 22 = Zhz) (h26 : T 26 = Zhv) (h23 : T 23 = Zhy) (h24 : T 24 = Zhx) {s : List Nat} {es : List V} {Le : D} (he : XK Rep 4 Le es) (hel : es.length ≤ 1000) {t : Tr D} {h : H} {hn u : Nat} {Q : D → H → Prop} {R : Uk} (hr : Rdy (.ofNat 5) s Le t h hn u) (hq : ∀ h' a b c d, Rep (Yw 5 s es) [a, b, c, d] → h.next ≤ h'.next → (∀ l, l < hn → hget h'.mem l = hget h.mem l) → Q (.tup [.agg [a, b, c, d], .v (.bool true)]) h') : VP E T Za3 t h (Zze (fun t h => YH ⟨[.cN 6 4, .t 7], .skip⟩ (act t) h) Q) R := by
  obtain ⟨g0, g1, g6, n6, m6, ⟨l8, p8, ⟨x8, y8⟩, m8⟩, ⟨l11, p11, ⟨x11, y11⟩, m11⟩, ⟨l13, p13, ⟨x13, y13⟩, m13⟩, ⟨l14, p14, ⟨x14, y14⟩, m14⟩, ⟨l15, p15, ⟨x15, y15⟩, m15⟩, ⟨l16, p16, ⟨x16, y16⟩, id16, m16⟩, ⟨l17, p17, ⟨x17, y17⟩, m17⟩, ⟨l18, p18, ⟨x18, y18⟩, m18⟩, ⟨l19, p19, ⟨x19, y19⟩, m19⟩, ⟨l20, p20, ⟨x20, y20⟩, m20⟩, ⟨p21, ⟨x21, y21⟩, m21⟩⟩ := hr
  have hsm := Zq he
  have ho := Y3 he
  have hc := ZF he
  have hm : XK Rep 4 (.sl id16 2 [.int .i64 (.ofNat 0), .int .u64 (.ofNat 0), .str [], .v (.slice none 0 0), .int .i64 (.ofNat 3), .int .u64 (.ofNat 0), .str [], Le]) [Zdm, Zra es] := Yl (Zp ZZ (Zp (ZW (by omega) he) Y1)) rfl (by simp)
  simp only [Yw, XR, Nat.reduceEqDiff, reduceCtorEq, if_true, if_false] at hq
  unfold Za3
  exact Zaa
theorem sw15_8 (h22 : T 22 = Zhz) (h26 : T 26 = Zhv) (h23 : T 23 = Zhy) (h24 : T 24 = Zhx) {s : List Nat} {es : List V} {Le : D} (he : XK Rep 4 Le es) (hel : es.length ≤ 1000) {t : Tr D} {h : H} {hn u : Nat} {Q : D → H → Prop} {R : Uk} (hr : Rdy (.ofNat 8) s Le t h hn u) (hq : ∀ h' a b c d, Rep (Yw 8 s es) [a, b, c, d] → h.next ≤ h'.next → (∀ l, l < hn → hget h'.mem l = hget h.mem l) → Q (.tup [.agg [a, b, c, d], .v (.bool true)]) h') : VP E T Za3 t h (Zze (fun t h => YH ⟨[.cN 6 4, .t 7], .skip⟩ (act t) h) Q) R := by
  obtain ⟨g0, g1, g6, n6, m6, ⟨l8, p8, ⟨x8, y8⟩, m8⟩, ⟨l11, p11, ⟨x11, y11⟩, m11⟩, ⟨l13, p13, ⟨x13, y13⟩, m13⟩, ⟨l14, p14, ⟨x14, y14⟩, m14⟩, ⟨l15, p15, ⟨x15, y15⟩, m15⟩, ⟨l16, p16, ⟨x16, y16⟩, id16, m16⟩, ⟨l17, p17, ⟨x17, y17⟩, m17⟩, ⟨l18, p18, ⟨x18, y18⟩, m18⟩, ⟨l19, p19, ⟨x19, y19⟩, m19⟩, ⟨l20, p20, ⟨x20, y20⟩, m20⟩, ⟨p21, ⟨x21, y21⟩, m21⟩⟩ := hr
  have hsm := Zq he
  have ho := Y3 he
  have hc := ZF he
  have hm : XK Rep 4 (.sl id16 2 [.int .i64 (.ofNat 0), .int .u64 (.ofNat 0), .str [], .v (.slice none 0 0), .int .i64 (.ofNat 3), .int .u64 (.ofNat 0), .str [], Le]) [Zdm, Zra es] := Yl (Zp ZZ (Zp (ZW (by omega) he) Y1)) rfl (by simp)
  simp only [Yw, XR, Nat.reduceEqDiff, reduceCtorEq, if_true, if_false] at hq
  unfold Za3
  exact Zaa
theorem Z7y (h22 : T 22 = Zhz) (h26 : T 26 = Zhv) (h23 : T 23 = Zhy) (h24 : T 24 = Zhx) {s : List Nat} {es : List V} {Le : D} (he : XK Rep 4 Le es) (hel : es.length ≤ 1000) {t : Tr D} {h : H} {hn u : Nat} {Q : D → H → Prop} {R : Uk} (hr : Rdy (.ofNat 11) s Le t h hn u) (hq : ∀ h' a b c d, Rep (Yw 11 s es) [a, b, c, d] → h.next ≤ h'.next → (∀ l, l < hn → hget h'.mem l = hget h.mem l) → Q (.tup [.agg [a, b, c, d], .v (.bool true)]) h') : VP E T Za3 t h (Zze (fun t h => YH ⟨[.cN 6 4, .t 7], .skip⟩ (act t) h) Q) R := by
  obtain ⟨g0, g1, g6, n6, m6, ⟨l8, p8, ⟨x8, y8⟩, m8⟩, ⟨l11, p11, ⟨x11, y11⟩, m11⟩, ⟨l13, p13, ⟨x13, y13⟩, m13⟩, ⟨l14, p14, ⟨x14, y14⟩, m14⟩, ⟨l15, p15, ⟨x15, y15⟩, m15⟩, ⟨l16, p16, ⟨x16, y16⟩, id16, m16⟩, ⟨l17, p17, ⟨x17, y17⟩, m17⟩, ⟨l18, p18, ⟨x18, y18⟩, m18⟩, ⟨l19, p19, ⟨x19, y19⟩, m19⟩, ⟨l20, p20, ⟨x20, y20⟩, m20⟩, ⟨p21, ⟨x21, y21⟩, m21⟩⟩ := hr
  have hsm := Zq he
  have ho := Y3 he
  have hc := ZF he
  have hm : XK Rep 4 (.sl id16 2 [.int .i64 (.ofNat 0), .int .u64 (.ofNat 0), .str [], .v (.slice none 0 0), .int .i64 (.ofNat 3), .int .u64 (.ofNat 0), .str [], Le]) [Zdm, Zra es] := Yl (Zp ZZ (Zp (ZW (by omega) he) Y1)) rfl (by simp)
  simp only [Yw, XR, Nat.reduceEqDiff, reduceCtorEq, if_true, if_false] at hq
  unfold Za3
  exact Zaa
theorem Z7x (h22 : T 22 = Zhz) (h26 : T 26 = Zhv) (h23 : T 23 = Zhy) (h24 : T 24 = Zhx) {s : List Nat} {es : List V} {Le : D} (he : XK Rep 4 Le es) (hel : es.length ≤ 1000) {t : Tr D} {h : H} {hn u : Nat} {Q : D → H → Prop} {R : Uk} (hr : Rdy (.ofNat 13) s Le t h hn u) (hq : ∀ h' a b c d, Rep (Yw 13 s es) [a, b, c, d] → h.next ≤ h'.next → (∀ l, l < hn → hget h'.mem l = hget h.mem l) → Q (.tup [.agg [a, b, c, d], .v (.bool true)]) h') : VP E T Za3 t h (Zze (fun t h => YH ⟨[.cN 6 4, .t 7], .skip⟩ (act t) h) Q) R := by
  obtain ⟨g0, g1, g6, n6, m6, ⟨l8, p8, ⟨x8, y8⟩, m8⟩, ⟨l11, p11, ⟨x11, y11⟩, m11⟩, ⟨l13, p13, ⟨x13, y13⟩, m13⟩, ⟨l14, p14, ⟨x14, y14⟩, m14⟩, ⟨l15, p15, ⟨x15, y15⟩, m15⟩, ⟨l16, p16, ⟨x16, y16⟩, id16, m16⟩, ⟨l17, p17, ⟨x17, y17⟩, m17⟩, ⟨l18, p18, ⟨x18, y18⟩, m18⟩, ⟨l19, p19, ⟨x19, y19⟩, m19⟩, ⟨l20, p20, ⟨x20, y20⟩, m20⟩, ⟨p21, ⟨x21, y21⟩, m21⟩⟩ := hr
  have hsm := Zq he
  have ho := Y3 he
  have hc := ZF he
  have hm : XK Rep 4 (.sl id16 2 [.int .i64 (.ofNat 0), .int .u64 (.ofNat 0), .str [], .v (.slice none 0 0), .int .i64 (.ofNat 3), .int .u64 (.ofNat 0), .str [], Le]) [Zdm, Zra es] := Yl (Zp ZZ (Zp (ZW (by omega) he) Y1)) rfl (by simp)
  simp only [Yw, XR, Nat.reduceEqDiff, reduceCtorEq, if_true, if_false] at hq
  unfold Za3
  exact Zaa
theorem Z7w (h22 : T 22 = Zhz) (h26 : T 26 = Zhv) (h23 : T 23 = Zhy) (h24 : T 24 = Zhx) {s : List Nat} {es : List V} {Le : D} (he : XK Rep 4 Le es) (hel : es.length ≤ 1000) {t : Tr D} {h : H} {hn u : Nat} {Q : D → H → Prop} {R : Uk} (hr : Rdy (.ofNat 15) s Le t h hn u) (hq : ∀ h' a b c d, Rep (Yw 15 s es) [a, b, c, d] → h.next ≤ h'.next → (∀ l, l < hn → hget h'.mem l = hget h.mem l) → Q (.tup [.agg [a, b, c, d], .v (.bool true)]) h') : VP E T Za3 t h (Zze (fun t h => YH ⟨[.cN 6 4, .t 7], .skip⟩ (act t) h) Q) R := by
  obtain ⟨g0, g1, g6, n6, m6, ⟨l8, p8, ⟨x8, y8⟩, m8⟩, ⟨l11, p11, ⟨x11, y11⟩, m11⟩, ⟨l13, p13, ⟨x13, y13⟩, m13⟩, ⟨l14, p14, ⟨x14, y14⟩, m14⟩, ⟨l15, p15, ⟨x15, y15⟩, m15⟩, ⟨l16, p16, ⟨x16, y16⟩, id16, m16⟩, ⟨l17, p17, ⟨x17, y17⟩, m17⟩, ⟨l18, p18, ⟨x18, y18⟩, m18⟩, ⟨l19, p19, ⟨x19, y19⟩, m19⟩, ⟨l20, p20, ⟨x20, y20⟩, m20⟩, ⟨p21, ⟨x21, y21⟩, m21⟩⟩ := hr
  have hsm := Zq he
  have ho := Y3 he
  have hc := ZF he
  have hm : XK Rep 4 (.sl id16 2 [.int .i64 (.ofNat 0), .int .u64 (.ofNat 0), .str [], .v (.slice none 0 0), .int .i64 (.ofNat 3), .int .u64 (.ofNat 0), .str [], Le]) [Zdm, Zra es] := Yl (Zp ZZ (Zp (ZW (by omega) he) Y1)) rfl (by simp)
  simp only [Yw, XR, Nat.reduceEqDiff, reduceCtorEq, if_true, if_false] at hq
  unfold Za3
  exact Zaa
theorem Z7v (h22 : T 22 = Zhz) (h26 : T 26 = Zhv) (h23 : T 23 = Zhy) (h24 : T 24 = Zhx) {s : List Nat} {es : List V} {Le : D} (he : XK Rep 4 Le es) (hel : es.length ≤ 1000) {t : Tr D} {h : H} {hn u : Nat} {Q : D → H → Prop} {R : Uk} (hr : Rdy (.ofNat 20) s Le t h hn u) (hq : ∀ h' a b c d, Rep (Yw 20 s es) [a, b, c, d] → h.next ≤ h'.next → (∀ l, l < hn → hget h'.mem l = hget h.mem l) → Q (.tup [.agg [a, b, c, d], .v (.bool true)]) h') : VP E T Za3 t h (Zze (fun t h => YH ⟨[.cN 6 4, .t 7], .skip⟩ (act t) h) Q) R := by
  obtain ⟨g0, g1, g6, n6, m6, ⟨l8, p8, ⟨x8, y8⟩, m8⟩, ⟨l11, p11, ⟨x11, y11⟩, m11⟩, ⟨l13, p13, ⟨x13, y13⟩, m13⟩, ⟨l14, p14, ⟨x14, y14⟩, m14⟩, ⟨l15, p15, ⟨x15, y15⟩, m15⟩, ⟨l16, p16, ⟨x16, y16⟩, id16, m16⟩, ⟨l17, p17, ⟨x17, y17⟩, m17⟩, ⟨l18, p18, ⟨x18, y18⟩, m18⟩, ⟨l19, p19, ⟨x19, y19⟩, m19⟩, ⟨l20, p20, ⟨x20, y20⟩, m20⟩, ⟨p21, ⟨x21, y21⟩, m21⟩⟩ := hr
  have hsm := Zq he
  have ho := Y3 he
  have hc := ZF he
  have hm : XK Rep 4 (.sl id16 2 [.int .i64 (.ofNat 0), .int .u64 (.ofNat 0), .str [], .v (.slice none 0 0), .int .i64 (.ofNat 3), .int .u64 (.ofNat 0), .str [], Le]) [Zdm, Zra es] := Yl (Zp ZZ (Zp (ZW (by omega) he) Y1)) rfl (by simp)
  simp only [Yw, XR, Nat.reduceEqDiff, reduceCtorEq, if_true, if_false] at hq
  unfold Za3
  exact Zaa
theorem Z7u (h22 : T 22 = Zhz) (h26 : T 26 = Zhv) (h23 : T 23 = Zhy) (h24 : T 24 = Zhx) {s : List Nat} {es : List V} {Le : D} (he : XK Rep 4 Le es) (hel : es.length ≤ 1000) {t : Tr D} {h : H} {hn u : Nat} {Q : D → H → Prop} {R : Uk} (hr : Rdy (.ofNat 24) s Le t h hn u) (hq : ∀ h' a b c d, Rep (Yw 24 s es) [a, b, c, d] → h.next ≤ h'.next → (∀ l, l < hn → hget h'.mem l = hget h.mem l) → Q (.tup [.agg [a, b, c, d], .v (.bool true)]) h') : VP E T Za3 t h (Zze (fun t h => YH ⟨[.cN 6 4, .t 7], .skip⟩ (act t) h) Q) R := by
  obtain ⟨g0, g1, g6, n6, m6, ⟨l8, p8, ⟨x8, y8⟩, m8⟩, ⟨l11, p11, ⟨x11, y11⟩, m11⟩, ⟨l13, p13, ⟨x13, y13⟩, m13⟩, ⟨l14, p14, ⟨x14, y14⟩, m14⟩, ⟨l15, p15, ⟨x15, y15⟩, m15⟩, ⟨l16, p16, ⟨x16, y16⟩, id16, m16⟩, ⟨l17, p17, ⟨x17, y17⟩, m17⟩, ⟨l18, p18, ⟨x18, y18⟩, m18⟩, ⟨l19, p19, ⟨x19, y19⟩, m19⟩, ⟨l20, p20, ⟨x20, y20⟩, m20⟩, ⟨p21, ⟨x21, y21⟩, m21⟩⟩ := hr
  have hsm := Zq he
  have ho := Y3 he
  have hc := ZF he
  have hm : XK Rep 4 (.sl id16 2 [.int .i64 (.ofNat 0), .int .u64 (.ofNat 0), .str [], .v (.slice none 0 0), .int .i64 (.ofNat 3), .int .u64 (.ofNat 0), .str [], Le]) [Zdm, Zra es] := Yl (Zp ZZ (Zp (ZW (by omega) he) Y1)) rfl (by simp)
  simp only [Yw, XR, Nat.reduceEqDiff, reduceCtorEq, if_true, if_false] at hq
  unfold Za3
  exact Zaa
theorem Z7t (h22 : T 22 = Zhz) (h26 : T 26 = Zhv) (h23 : T 23 = Zhy) (h24 : T 24 = Zhx) {s : List Nat} {es : List V} {Le : D} (he : XK Rep 4 Le es) (hel : es.length ≤ 1000) {t : Tr D} {h : H} {hn u : Nat} {Q : D → H → Prop} {R : Uk} {k : Int} (k1 : Zb7 k (.ofNat 1) = false) (k2 : Zb7 k (.ofNat 2) = false) (k4 : Zb7 k (.ofNat 4) = false) (k5 : Zb7 k (.ofNat 5) = false) (k8 : Zb7 k (.ofNat 8) = false) (k11 : Zb7 k (.ofNat 11) = false) (k13 : Zb7 k (.ofNat 13) = false) (k15 : Zb7 k (.ofNat 15) = false) (k20 : Zb7 k (.ofNat 20) = false) (k24 : Zb7 k (.ofNat 24) = false) (hr : Rdy k s Le t h hn u) (hq : ∀ h', h.next ≤ h'.next → (∀ l, l < hn → hget h'.mem l = hget h.mem l) → Q (.tup [.agg [.int .i64 (.ofNat 0), .int .u64 (.ofNat 0), .str [], .v (.slice none 0 0)], .v (.bool false)]) h') : VP E T Za3 t h (Zze (fun t h => YH ⟨[.cN 6 4, .t 7], .skip⟩ (act t) h) Q) R := by
  obtain ⟨g0, g1, g6, n6, m6, ⟨l8, p8, ⟨x8, y8⟩, m8⟩, ⟨l11, p11, ⟨x11, y11⟩, m11⟩, ⟨l13, p13, ⟨x13, y13⟩, m13⟩, ⟨l14, p14, ⟨x14, y14⟩, m14⟩, ⟨l15, p15, ⟨x15, y15⟩, m15⟩, ⟨l16, p16, ⟨x16, y16⟩, id16, m16⟩, ⟨l17, p17, ⟨x17, y17⟩, m17⟩, ⟨l18, p18, ⟨x18, y18⟩, m18⟩, ⟨l19, p19, ⟨x19, y19⟩, m19⟩, ⟨l20, p20, ⟨x20, y20⟩, m20⟩, ⟨p21, ⟨x21, y21⟩, m21⟩⟩ := hr
  unfold Za3
  repeat' (with_reducible (first | refine ZA ?_ | refine ZB ?_ | refine ZQ ?_ | refine ZP ?_ | refine ZD ?_ | refine Zt ?_ | refine ZC ?_ | refine ZR ?_ | refine ZO ?_ | refine ZG ?_ | refine ZS ?_ | refine Zud h22 ?_ | refine Zua h26 ?_ | refine Zuc h23 ?_ ?_ ?_ | refine Zub h24 ?_ ?_ ?_ | simp (maxSteps := 2000000) (disch := first | assumption | exact Yt (by omega) | omega | (simp only [Zm, Zl, List.length_cons, List.length_nil, List.length_append, List.length_take, List.length_drop]; omega) | fail) only [go_sem, -Int.reduceOfNat, *] | ((first | refine Yh ?_ ?_ | refine ZV ?_ ?_ | refine Yg ?_ ?_ | refine ZT ?_ ?_ | refine ZU ?_ ?_ | refine ZH ?_ ?_) <;> intro _) | (show Q _ _; refine hq _ ?_ ?_) | exact Zq (by assumption) | (refine Yl ?_ (by simp) (by simp)) | (refine Zp ?_ ?_) | exact Y1 | exact ZZ | (refine ZW (by first | omega | simp) ?_) | assumption | exact trivial | (show _ < _; omega) | (show _ ≤ _; omega) | (show ¬ (_ : Nat) = _; omega) | (show (_ : Nat) ≠ _; omega) | (show (_ : Nat) = _; omega) | (intro _; intros) | (refine ⟨_, by assumption, ?_⟩) | refine And.intro ?_ ?_))
end
section
attribute [local go_sem] exists_eq'
variable {h : H} {Q : D → H → Prop} {R : Uk}
def Zvx : ZE := Y5 YI (fun t h => YH ⟨[.cN 6 4, .t 7], .skip⟩ (act t) h)
 (Z0 (Z1<|fo (Za 33 [(.int .i64 (.ofNat 0)),(.int .u64 (.ofNat 0)),(.str []),(.v (.slice none 0 0))]) (St 6)<|fo (Yf (kD (.v (.bool false)))) (St 7)<|Z2)
 (Z0 (Z1<|fo (Zy [(.int .i64 (.ofNat 0)),(.int .u64 (.ofNat 0)),(.str []),(.v (.slice none 0 0))] []) (St 30)<|fo (Za 33 [(.int .i64 (.ofNat 0)),(.int .u64 (.ofNat 0)),(.str []),(.v (.slice none 0 0))]) (St 8)<|fo (Ze 4 (Gt 8) (Gt 30)) p0<|Z2)
 (Z0 (Z1<|fo (Zn 5 0 [] []) (St 31)<|mM 31 9<|Z2)
 (Z0 (Z0 (Z1<|fo (Yf (kI 0)) (St 10)<|Z2)
 (Zc 0 (ZI (Z0 (Z0 (Z1<|mM 10 32<|fo (Zd Vc .lss 3 (.tmp 32) (.const (.int .i64 (.ofNat 32))) (Gt 32) (kI 32)) (St 33)<|Z2)
 (Z7 (Gt 33) Z8 (ZL 0)))
 (Z0 (Zc 1 (Z0 (Z1<|mM 10 36<|mM 1 37<|fo (u1 Va (Gt 37)) (St 38)<|fo (Zd Vc .lss 3 (.tmp 36) (.tmp 38) (Gt 36) (Gt 38)) (St 39)<|Z2)
 (Z7 (Gt 39) (Z1<|mM 9 40<|mM 1 41<|mM 10 42<|fo (u2 Xs (Gt 41) (Gt 42)) (St 43)<|fo (Zn 5 1 [(.int .u8 (.ofNat 0))] [(0,1,(Gt 43))]) (St 44)<|fo (u2 (YE 5 1 1) (Gt 40) (Gt 44)) (St 45)<|mM 45 9<|Z2) (Z1<|mM 9 46<|fo (Zn 5 1 [(.int .u8 (.ofNat 0))] [(0,1,(kD (.int .u8 (.ofNat 0))))]) (St 47)<|fo (u2 (YE 5 1 1) (Gt 46) (Gt 47)) (St 48)<|mM 48 9<|Z2))))
 (Z1<|mM 10 34<|fo (Zd Y2 .add 3 (.tmp 34) (.const (.int .i64 (.ofNat 1))) (Gt 34) (kI 1)) (St 35)<|mM 35 10<|Z2))))))
 (Z0 (Z1<|mM 9 49<|fo (u1 Zkd (Gt 49)) (St 50)<|mK 26 [(Gt 50)] 51<|fo (Za 33 [(.int .i64 (.ofNat 0)),(.int .u64 (.ofNat 0)),(.str []),(.v (.slice none 0 0))]) (St 11)<|fo (Ze 4 (Gt 11) (Gt 51)) p0<|Z2)
 (Z0 (Z1<|mM 1 52<|mM 52 12<|Z2)
 (Z0 (Z0 (Z1<|mM 12 53<|fo (u1 Va (Gt 53)) (St 54)<|fo (Zd WW .gtr 3 (.tmp 54) (.const (.int .i64 (.ofNat 255))) (Gt 54) (kI 255)) (St 55)<|Z2)
 (Z7 (Gt 55) (Z1<|mM 12 56<|fo (XQ (Gt 56) none (some (kI 255))) (St 57)<|mM 57 12<|Z2) Z8))
 (Z0 (Z1<|mM 12 58<|mK 26 [(Gt 58)] 59<|fo (Za 33 [(.int .i64 (.ofNat 0)),(.int .u64 (.ofNat 0)),(.str []),(.v (.slice none 0 0))]) (St 13)<|fo (Ze 4 (Gt 13) (Gt 59)) p0<|Z2)
 (Z0 (Z1<|mM 1 60<|mK 26 [(Gt 60)] 61<|fo (Za 33 [(.int .i64 (.ofNat 0)),(.int .u64 (.ofNat 0)),(.str []),(.v (.slice none 0 0))]) (St 14)<|fo (Ze 4 (Gt 14) (Gt 61)) p0<|Z2)
 (Z0 (Z0 (Z1<|mM 1 62<|fo (Zd ZX .eql 9 (.tmp 62) (.const (.string ⟨#[]⟩)) (Gt 62) (kS [])) (St 63)<|Z2)
 (Z7 (Gt 63) (Z1<|mK 26 [(kS [1])] 64<|fo (Ze 4 (Gt 14) (Gt 64)) p0<|Z2) Z8))
 (Z0 (Z1<|mM 2 65<|mK 23 [(Gt 65)] 66<|fo (Za 33 [(.int .i64 (.ofNat 0)),(.int .u64 (.ofNat 0)),(.str []),(.v (.slice none 0 0))]) (St 15)<|fo (Ze 4 (Gt 15) (Gt 66)) p0<|Z2)
 (Z0 (Z1<|fo (Zi 4 (Gt 8)) (St 67)<|fo (Zi 4 (Gt 15)) (St 68)<|fo (Zn 33 2 [(.int .i64 (.ofNat 0)),(.int .u64 (.ofNat 0)),(.str []),(.v (.slice none 0 0)),(.int .i64 (.ofNat 0)),(.int .u64 (.ofNat 0)),(.str []),(.v (.slice none 0 0))] [(0,4,(Gt 67)),(4,4,(Gt 68))]) (St 69)<|mK 24 [(Gt 69)] 70<|fo (Za 33 [(.int .i64 (.ofNat 0)),(.int .u64 (.ofNat 0)),(.str []),(.v (.slice none 0 0))]) (St 16)<|fo (Ze 4 (Gt 16) (Gt 70)) p0<|Z2)
 (Z0 (Z1<|mK 26 [(kS [])] 71<|fo (Za 33 [(.int .i64 (.ofNat 0)),(.int .u64 (.ofNat 0)),(.str []),(.v (.slice none 0 0))]) (St 17)<|fo (Ze 4 (Gt 17) (Gt 71)) p0<|Z2)
 (Z0 (Z1<|mK 22 [(kD (.int .u64 (.ofNat 0)))] 72<|fo (Za 33 [(.int .i64 (.ofNat 0)),(.int .u64 (.ofNat 0)),(.str []),(.v (.slice none 0 0))]) (St 18)<|fo (Ze 4 (Gt 18) (Gt 72)) p0<|Z2)
 (Z0 (Z1<|mK 22 [(kD (.int .u64 (.ofNat 771)))] 73<|fo (Za 33 [(.int .i64 (.ofNat 0)),(.int .u64 (.ofNat 0)),(.str []),(.v (.slice none 0 0))]) (St 19)<|fo (Ze 4 (Gt 19) (Gt 73)) p0<|Z2)
 (Z0 (Z1<|mK 22 [(kD (.int .u64 (.ofNat 4865)))] 74<|fo (Za 33 [(.int .i64 (.ofNat 0)),(.int .u64 (.ofNat 0)),(.str []),(.v (.slice none 0 0))]) (St 20)<|fo (Ze 4 (Gt 20) (Gt 74)) p0<|Z2)
 (Z0 (Z1<|fo (Zi 4 (Gt 8)) (St 75)<|fo (Za 33 [(.int .i64 (.ofNat 0)),(.int .u64 (.ofNat 0)),(.str []),(.v (.slice none 0 0))]) (St 21)<|fo (Ze 4 (Gt 21) (Gt 75)) p0<|Z2)
 Za3)))))))))))))))))
theorem Zso : ∀ {l : List Nat}, (∀ x ∈ l, x < 256) → V4 (Xn l) = some l
  | [], _ => rfl
  | x :: l, h => by
    have h1 := Zso (l := l) fun y hy => h y (List.mem_cons_of_mem _ hy)
    have h2 : Nat.blt x 256 = true := by rw [Nat.blt_eq]; exact h x (List.mem_cons_self ..)
    show V4 (.int .u8 (.ofNat x) :: Xn l) = _
    simp only [V4, h1, h2, cond_true]
theorem Zvi : ∀ {n i : Nat}, i < n → (Zkc [0] n)[i]? = some 0
  | n + 1, 0, _ => rfl
  | n + 1, i + 1, h => by
    show ([0] ++ Zkc [0] n)[i + 1]? = _
    rw [List.getElem?_append_right (by simp)]
    exact Zvi (by simp; omega)
theorem Zvh : ∀ {n x : Nat}, x ∈ Zkc [0] n → x = 0
  | n + 1, x, h => by
    rcases List.mem_append.1 h with h | h
    · simpa using h
    · exact Zvh h
theorem Zs6 (s : List Nat) : (Zvu s).length = 32 := by
  unfold Zvu
  rw [List.length_append, Zo4, List.length_take]
  omega
theorem r32_lt {s : List Nat} (h : ∀ x ∈ s, x < 256) : ∀ x ∈ Zvu s, x < 256 := by
  intro x hx
  rcases List.mem_append.1 hx with hx | hx
  · exact h x (List.mem_of_mem_take hx)
  · rw [Zvh hx]; decide
theorem Z8r {s : List Nat} {i : Nat} (h : i < 32) : (Zvu s)[i]? = some (if i < s.length then s.getD i 0 else 0) := by
  unfold Zvu
  by_cases hi : i < s.length
  · rw [if_pos hi, List.getElem?_append_left (by rw [List.length_take]; omega), List.getElem?_take_of_lt (by omega)]
    simp [List.getD, List.getElem?_eq_getElem hi]
  · rw [if_neg hi, List.getElem?_append_right (by rw [List.length_take]; omega)]
    exact Zvi (by rw [List.length_take]; omega)
theorem Z41 {s : List Nat} {i : Nat} (h : i < 32) : (Zvu s).take (i + 1) = (Zvu s).take i ++ [if i < s.length then s.getD i 0 else 0] := by
  rw [List.take_add_one, Z8r h]; rfl
theorem Zw4 {l : List Nat} {x : Nat} : Xn (l ++ [x]) = Xn l ++ [.int .u8 (.ofNat x)] := by simp [Xn]
theorem slz_b {id : Nat} {l : List Nat} : D.sl id 0 [] = .sl id 0 (Xn (List.take 0 l)) := rfl
theorem oApp_b {id i m x : Nat} {l : List Nat} (ht : hget h.mem id = some (.tip i 5)) (hl : l.length = i) (hi : i ≤ 1000) : Zdv 5 1 1 (.sl id i (Xn l)) (.sl m 1 [.int .u8 (.ofNat x)]) h = .ok (.sl id (i + 1) (Xn (l ++ [x]))) (Wq h id (.tip (i + 1) 5)) := by
  rw [Zw4]
  exact Zta ht (by decide) rfl rfl (by simp [Xn, hl]) (by decide) (by omega) (by omega)
theorem oApp_bn {id i m x : Nat} {l : List Nat} {o : AObj} (ht : hget h.mem id = some (.tip i 5)) (hid : id < h.next) (hl : l.length = i) (hi : i ≤ 1000) : Zdv 5 1 1 (.sl id i (Xn l)) (.sl m 1 [.int .u8 (.ofNat x)]) (WJ h o) = .ok (.sl id (i + 1) (Xn (l ++ [x]))) (Wq (WJ h o) id (.tip (i + 1) 5)) := oApp_b (by rw [YG (by omega)]; exact ht) hl hi
abbrev IB (h : H) (k : Int) (s : List Nat) (Le : D) (m : Nat) (t1 : Tr D) (h1 : H) : Prop :=
  (∀ l, l < h.next → hget h1.mem l = hget h.mem l) ∧ Gt 0 t1 = .int .i64 k ∧ Gt 1 t1 = .str s ∧ Gt 2 t1 = Le ∧ Gt 6 t1 = .ptr h.next 0 ∧ Gt 7 t1 = .v (.bool false) ∧ Gt 8 t1 = .ptr (h.next + 1) 0 ∧ hget h1.mem h.next = some (.cells 33 [.int .i64 (.ofNat 0), .int .u64 (.ofNat 0), .str [], .v (.slice none 0 0)]) ∧ hget h1.mem (h.next + 1) = some (.cells 33 [.int .i64 (.ofNat 0), .int .u64 (.ofNat 0), .str [], .v (.slice none 0 0)]) ∧
    ∃ id i, Gt 9 t1 = .sl id i (Xn ((Zvu s).take i)) ∧ hget h1.mem id = some (.tip i 5) ∧ h.next + 2 ≤ id ∧ id < h1.next ∧ Gt 10 t1 = .int .i64 (.ofNat i) ∧ i + m = 32
theorem rdy_mk {k : Int} {s : List Nat} {Le : D} {t : Tr D} {h : H} {hn u : Nat} (g0 : Gt 0 t = .int .i64 k) (g1 : Gt 1 t = .str s) (g6 : Gt 6 t = .ptr hn 0) (n6 : hn < h.next) (m6 : hget h.mem hn = some (.cells 33 [.int .i64 (.ofNat 0), .int .u64 (.ofNat 0), .str [], .v (.slice none 0 0)])) (l8 : ∃ l, Gt 8 t = .ptr l 0 ∧ (hn < l ∧ l < u) ∧ hget h.mem l = some (.cells 33 [.int .i64 (.ofNat 0), .int .u64 (.ofNat 0), .str [], .v (.slice none 0 0)])) (l11 : ∃ l, Gt 11 t = .ptr l 0 ∧ (hn < l ∧ l < u) ∧ hget h.mem l = some (.cells 33 [.int .i64 (.ofNat 2), .int .u64 (.ofNat 0), .str (Zvu s), .v (.slice none 0 0)])) (l13 : ∃ l, Gt 13 t = .ptr l 0 ∧ (hn < l ∧ l < u) ∧ hget h.mem l = some (.cells 33 [.int .i64 (.ofNat 2), .int .u64 (.ofNat 0), .str (Zhk s), .v (.slice none 0 0)])) (l14 : ∃ l, Gt 14 t = .ptr l 0 ∧ (hn < l ∧ l < u) ∧ hget h.mem l = some (.cells 33 [.int .i64 (.ofNat 2), .int .u64 (.ofNat 0), .str (Zf9 s), .v (.slice none 0 0)])) (l15 : ∃ l, Gt 15 t = .ptr l 0 ∧ (hn < l ∧ l < u) ∧ hget h.mem l = some (.cells 33 [.int .i64 (.ofNat 3), .int .u64 (.ofNat 0), .str [], Le])) (l16 : ∃ l, Gt 16 t = .ptr l 0 ∧ (hn < l ∧ l < u) ∧ ∃ id, hget h.mem l = some (.cells 33 [.int .i64 (.ofNat 4), .int .u64 (.ofNat 0), .str [], .sl id 2 [.int .i64 (.ofNat 0), .int .u64 (.ofNat 0), .str [], .v (.slice none 0 0), .int .i64 (.ofNat 3), .int .u64 (.ofNat 0), .str [], Le]])) (l17 : ∃ l, Gt 17 t = .ptr l 0 ∧ (hn < l ∧ l < u) ∧ hget h.mem l = some (.cells 33 [.int .i64 (.ofNat 2), .int .u64 (.ofNat 0), .str [], .v (.slice none 0 0)])) (l18 : ∃ l, Gt 18 t = .ptr l 0 ∧ (hn < l ∧ l < u) ∧ hget h.mem l = some (.cells 33 [.int .i64 (.ofNat 1), .int .u64 (.ofNat 0), .str [], .v (.slice none 0 0)])) (l19 : ∃ l, Gt 19 t = .ptr l 0 ∧ (hn < l ∧ l < u) ∧ hget h.mem l = some (.cells 33 [.int .i64 (.ofNat 1), .int .u64 (.ofNat 771), .str [], .v (.slice none 0 0)])) (l20 : ∃ l, Gt 20 t = .ptr l 0 ∧ (hn < l ∧ l < u) ∧ hget h.mem l = some (.cells 33 [.int .i64 (.ofNat 1), .int .u64 (.ofNat 4865), .str [], .v (.slice none 0 0)])) (l21 : Gt 21 t = .ptr u 0 ∧ (hn < u ∧ u < h.next) ∧ hget h.mem u = some (.cells 33 [.int .i64 (.ofNat 0), .int .u64 (.ofNat 0), .str [], .v (.slice none 0 0)])) : Rdy k s Le t h hn u := ⟨g0, g1, g6, n6, m6, l8, l11, l13, l14, l15, l16, l17, l18, l19, l20, l21⟩
def dLoc : D → Nat
  | .ptr u _ => u
  | _ => 0
theorem Z6f {u o : Nat} : dLoc (.ptr u o) = u := rfl
theorem Zgv : (fun (t : Tr D) (h : H) => YH ⟨[.cN 6 4, .t 7], .skip⟩ (act t) h) = fun t h => Z8x (Zk h (Gt 6 t) 4) (Gt 7 t) h := by funext t h; simp only [go_sem]
theorem Zod (h22 : T 22 = Zhz) (h26 : T 26 = Zhv) (h23 : T 23 = Zhy) (h24 : T 24 = Zhx) (h15 : T 15 = Zvx) {k : Int} {s : List Nat} {es : List V} {Le : D} (hs : s.length ≤ 400) (hb : ∀ x ∈ s, x < 256) (he : XK Rep 4 Le es) (hel : es.length ≤ 1000)
    (hq : ∀ t' h', Rdy k s Le t' h' h.next (dLoc (Gt 21 t')) → h.next ≤ h'.next → (∀ l, l < h.next → hget h'.mem l = hget h.mem l) → VP E T Za3 t' h' (Zze (fun t h => Z8x (Zk h (Gt 6 t) 4) (Gt 7 t) h) Q) R) : VC E T 15 [.int .i64 k, .str s, Le] h Q R := by
  have hsm := Zq he
  have ho := Y3 he
  have hc := ZF he
  have hb2 : ∀ (id : Nat) (h : H), Z5n (.sl id 32 (Xn ((Zvu s).take 32))) h = .ok (.str (Zvu s)) h := fun id h => by
    have e : (Zvu s).take 32 = Zvu s := List.take_of_length_le (by rw [Zs6]; omega)
    rw [e]
    exact oB2s_sl (by simp [Xn, Zs6]) (Zso (r32_lt hb))
  refine YK h15 ?_
  unfold YI
  repeat' (with_reducible (first | refine ZA ?_ | refine ZB ?_ | refine ZQ ?_ | refine ZP ?_ | refine ZD ?_ | refine Zt ?_ | refine ZC ?_ | refine ZR ?_ | refine ZO ?_ | refine ZG ?_ | refine ZS ?_ | refine Zud h22 ?_ | refine Zua h26 ?_ | refine Zuc h23 ?_ ?_ ?_ | refine Zub h24 ?_ ?_ ?_ | simp (maxSteps := 2000000) (disch := first | assumption | exact Yt (by omega) | omega | (simp only [Zm, Zl, List.length_cons, List.length_nil, List.length_append, List.length_take, List.length_drop]; omega) | fail) only [go_sem, -Int.reduceOfNat, *] | ((first | refine Yh ?_ ?_ | refine ZV ?_ ?_ | refine Yg ?_ ?_ | refine ZT ?_ ?_ | refine ZU ?_ ?_ | refine ZH ?_ ?_) <;> intro _) | (refine Zah (IB h k s Le) (n := 32) ?_ ?_) | (refine ⟨_, 0, slz_b, ?_⟩) | assumption | exact trivial | (show _ < _; omega) | (show _ ≤ _; omega) | (show ¬ (_ : Nat) = _; omega) | (show (_ : Nat) ≠ _; omega) | (show (_ : Nat) = _; omega) | (intro _; intros) | (refine ⟨_, by assumption, ?_⟩) | refine And.intro ?_ ?_))
  all_goals
    rintro m t1 h1 ⟨gf, g0, g1, g2, g6, g7, g8, m6, m8, id, i, g9, m9, x9, y9, g10, gi⟩
    have hlt : i ≤ 32 → ((Zvu s).take i).length = i := fun hh => by rw [List.length_take, Zs6]; omega
    by_cases h32 : i < 32
    · have hstep := (Z41 (s := s) h32).symm
      have hl1 := hlt (by omega)
      by_cases his : i < s.length
      all_goals
        simp only [his, if_true, if_false] at hstep
        clear hlt
        repeat' (with_reducible (first | refine ZA ?_ | refine ZB ?_ | refine ZQ ?_ | refine ZP ?_ | refine ZD ?_ | refine Zt ?_ | refine ZC ?_ | refine ZR ?_ | refine ZO ?_ | refine ZG ?_ | refine ZS ?_ | simp (maxSteps := 2000000) (disch := first | assumption | exact Yt (by omega) | omega | (simp only [Zm, Zl, List.length_cons, List.length_nil, List.length_append, List.length_take, List.length_drop]; omega) | fail) only [go_sem, -Int.reduceOfNat, *, oApp_bn, oIdxs_s] | ((first | refine Yh ?_ ?_ | refine ZV ?_ ?_ | refine Yg ?_ ?_ | refine ZT ?_ ?_ | refine ZU ?_ ?_ | refine ZH ?_ ?_) <;> intro _) | (refine ⟨_, _, rfl, ?_⟩) | (refine ⟨m - 1, by omega, ?_⟩) | assumption | exact trivial | (show _ < _; omega) | (show _ ≤ _; omega) | (show ¬ (_ : Nat) = _; omega) | (show (_ : Nat) ≠ _; omega) | (show (_ : Nat) = _; omega) | (intro _; intros) | (refine ⟨_, by assumption, ?_⟩) | refine And.intro ?_ ?_))
    · obtain rfl : i = 32 := by omega
      clear hlt
      have em : s.take (min s.length 255) = Zhk s := rfl
      by_cases h255 : 255 < s.length
      · have e1 : min s.length 255 = 255 := by omega
        rw [e1] at em
        by_cases hnil : s = []
        · subst hnil; simp at h255
        have en : Zf9 s = s := by unfold Zf9; rw [if_neg hnil]
        exact Ztd
      · have e1 : s.take (min s.length 255) = s := List.take_of_length_le (by omega)
        rw [e1] at em
        replace em := em.symm
        by_cases hnil : s = []
        · subst hnil
          have en : Zf9 [] = [1] := rfl
          exact Ztd
        · have en : Zf9 s = s := by unfold Zf9; rw [if_neg hnil]
          exact Ztd
theorem vc15_1 (h22 : T 22 = Zhz) (h26 : T 26 = Zhv) (h23 : T 23 = Zhy) (h24 : T 24 = Zhx) (h15 : T 15 = Zvx) {s : List Nat} {es : List V} {Le : D} (hs : s.length ≤ 400) (hb : ∀ x ∈ s, x < 256) (he : XK Rep 4 Le es) (hel : es.length ≤ 1000) (hq : ∀ h' a b c d, Rep (Yw 1 s es) [a, b, c, d] → h.next ≤ h'.next → (∀ l, l < h.next → hget h'.mem l = hget h.mem l) → Q (.tup [.agg [a, b, c, d], .v (.bool true)]) h') : VC E T 15 [.int .i64 (.ofNat 1), .str s, Le] h Q R := by
  refine Zod h22 h26 h23 h24 h15 hs hb he hel ?_
  intro t' h1 hr hn hf
  rw [← Zgv]
  exact sw15_1 h22 h26 h23 h24 he hel hr fun h' a b c d h2 h3 h4 => hq h' a b c d h2 (by omega) fun l hl => by rw [h4 l hl, hf l hl]
theorem vc15_2 (h22 : T 22 = Zhz) (h26 : T 26 = Zhv) (h23 : T 23 = Zhy) (h24 : T 24 = Zhx) (h15 : T 15 = Zvx) {s : List Nat} {es : List V} {Le : D} (hs : s.length ≤ 400) (hb : ∀ x ∈ s, x < 256) (he : XK Rep 4 Le es) (hel : es.length ≤ 1000) (hq : ∀ h' a b c d, Rep (Yw 2 s es) [a, b, c, d] → h.next ≤ h'.next → (∀ l, l < h.next → hget h'.mem l = hget h.mem l) → Q (.tup [.agg [a, b, c, d], .v (.bool true)]) h') : VC E T 15 [.int .i64 (.ofNat 2), .str s, Le] h Q R := by
  refine Zod h22 h26 h23 h24 h15 hs hb he hel ?_
  intro t' h1 hr hn hf
  rw [← Zgv]
  exact sw15_2 h22 h26 h23 h24 he hel hr fun h' a b c d h2 h3 h4 => hq h' a b c d h2 (by omega) fun l hl => by rw [h4 l hl, hf l hl]
theorem vc15_4 (h22 : T 22 = Zhz) (h26 : T 26 = Zhv) (h23 : T 23 = Zhy) (h24 : T 24 = Zhx) (h15 : T 15 = Zvx) {s : List Nat} {es : List V} {Le : D} (hs : s.length ≤ 400) (hb : ∀ x ∈ s, x < 256) (he : XK Rep 4 Le es) (hel : es.length ≤ 1000) (hq : ∀ h' a b c d, Rep (Yw 4 s es) [a, b, c, d] → h.next ≤ h'.next → (∀ l, l < h.next → hget h'.mem l = hget h.mem l) → Q (.tup [.agg [a, b, c, d], .v (.bool true)]) h') : VC E T 15 [.int .i64 (.ofNat 4), .str s, Le] h Q R := by
  refine Zod h22 h26 h23 h24 h15 hs hb he hel ?_
  intro t' h1 hr hn hf
  rw [← Zgv]
  exact sw15_4 h22 h26 h23 h24 he hel hr fun h' a b c d h2 h3 h4 => hq h' a b c d h2 (by omega) fun l hl => by rw [h4 l hl, hf l hl]
theorem vc15_5 (h22 : T 22 = Zhz) (h26 : T 26 = Zhv) (h23 : T 23 = Zhy) (h24 : T 24 = Zhx) (h15 : T 15 = Zvx) {s : List Nat} {es : List V} {Le : D} (hs : s.length ≤ 400) (hb : ∀ x ∈ s, x < 256) (he : XK Rep 4 Le es) (hel : es.length ≤ 1000) (hq : ∀ h' a b c d, Rep (Yw 5 s es) [a, b, c, d] → h.next ≤ h'.next → (∀ l, l < h.next → hget h'.mem l = hget h.mem l) → Q (.tup [.agg [a, b, c, d], .v (.bool true)]) h') : VC E T 15 [.int .i64 (.ofNat 5), .str s, Le] h Q R := by
  refine Zod h22 h26 h23 h24 h15 hs hb he hel ?_
  intro t' h1 hr hn hf
  rw [← Zgv]
  exact sw15_5 h22 h26 h23 h24 he hel hr fun h' a b c d h2 h3 h4 => hq h' a b c d h2 (by omega) fun l hl => by rw [h4 l hl, hf l hl]
theorem vc15_8 (h22 : T 22 = Zhz) (h26 : T 26 = Zhv) (h23 : T 23 = Zhy) (h24 : T 24 = Zhx) (h15 : T 15 = Zvx) {s : List Nat} {es : List V} {Le : D} (hs : s.length ≤ 400) (hb : ∀ x ∈ s, x < 256) (he : XK Rep 4 Le es) (hel : es.length ≤ 1000) (hq : ∀ h' a b c d, Rep (Yw 8 s es) [a, b, c, d] → h.next ≤ h'.next → (∀ l, l < h.next → hget h'.mem l = hget h.mem l) → Q (.tup [.agg [a, b, c, d], .v (.bool true)]) h') : VC E T 15 [.int .i64 (.ofNat 8), .str s, Le] h Q R := by
  refine Zod h22 h26 h23 h24 h15 hs hb he hel ?_
  intro t' h1 hr hn hf
  rw [← Zgv]
  exact sw15_8 h22 h26 h23 h24 he hel hr fun h' a b c d h2 h3 h4 => hq h' a b c d h2 (by omega) fun l hl => by rw [h4 l hl, hf l hl]
theorem Z7b (h22 : T 22 = Zhz) (h26 : T 26 = Zhv) (h23 : T 23 = Zhy) (h24 : T 24 = Zhx) (h15 : T 15 = Zvx) {s : List Nat} {es : List V} {Le : D} (hs : s.length ≤ 400) (hb : ∀ x ∈ s, x < 256) (he : XK Rep 4 Le es) (hel : es.length ≤ 1000) (hq : ∀ h' a b c d, Rep (Yw 11 s es) [a, b, c, d] → h.next ≤ h'.next → (∀ l, l < h.next → hget h'.mem l = hget h.mem l) → Q (.tup [.agg [a, b, c, d], .v (.bool true)]) h') : VC E T 15 [.int .i64 (.ofNat 11), .str s, Le] h Q R := by
  refine Zod h22 h26 h23 h24 h15 hs hb he hel ?_
  intro t' h1 hr hn hf
  rw [← Zgv]
  exact Z7y h22 h26 h23 h24 he hel hr fun h' a b c d h2 h3 h4 => hq h' a b c d h2 (by omega) fun l hl => by rw [h4 l hl, hf l hl]
theorem Z7a (h22 : T 22 = Zhz) (h26 : T 26 = Zhv) (h23 : T 23 = Zhy) (h24 : T 24 = Zhx) (h15 : T 15 = Zvx) {s : List Nat} {es : List V} {Le : D} (hs : s.length ≤ 400) (hb : ∀ x ∈ s, x < 256) (he : XK Rep 4 Le es) (hel : es.length ≤ 1000) (hq : ∀ h' a b c d, Rep (Yw 13 s es) [a, b, c, d] → h.next ≤ h'.next → (∀ l, l < h.next → hget h'.mem l = hget h.mem l) → Q (.tup [.agg [a, b, c, d], .v (.bool true)]) h') : VC E T 15 [.int .i64 (.ofNat 13), .str s, Le] h Q R := by
  refine Zod h22 h26 h23 h24 h15 hs hb he hel ?_
  intro t' h1 hr hn hf
  rw [← Zgv]
  exact Z7x h22 h26 h23 h24 he hel hr fun h' a b c d h2 h3 h4 => hq h' a b c d h2 (by omega) fun l hl => by rw [h4 l hl, hf l hl]
theorem Z69 (h22 : T 22 = Zhz) (h26 : T 26 = Zhv) (h23 : T 23 = Zhy) (h24 : T 24 = Zhx) (h15 : T 15 = Zvx) {s : List Nat} {es : List V} {Le : D} (hs : s.length ≤ 400) (hb : ∀ x ∈ s, x < 256) (he : XK Rep 4 Le es) (hel : es.length ≤ 1000) (hq : ∀ h' a b c d, Rep (Yw 15 s es) [a, b, c, d] → h.next ≤ h'.next → (∀ l, l < h.next → hget h'.mem l = hget h.mem l) → Q (.tup [.agg [a, b, c, d], .v (.bool true)]) h') : VC E T 15 [.int .i64 (.ofNat 15), .str s, Le] h Q R := by
  refine Zod h22 h26 h23 h24 h15 hs hb he hel ?_
  intro t' h1 hr hn hf
  rw [← Zgv]
  exact Z7w h22 h26 h23 h24 he hel hr fun h' a b c d h2 h3 h4 => hq h' a b c d h2 (by omega) fun l hl => by rw [h4 l hl, hf l hl]
theorem Z68 (h22 : T 22 = Zhz) (h26 : T 26 = Zhv) (h23 : T 23 = Zhy) (h24 : T 24 = Zhx) (h15 : T 15 = Zvx) {s : List Nat} {es : List V} {Le : D} (hs : s.length ≤ 400) (hb : ∀ x ∈ s, x < 256) (he : XK Rep 4 Le es) (hel : es.length ≤ 1000) (hq : ∀ h' a b c d, Rep (Yw 20 s es) [a, b, c, d] → h.next ≤ h'.next → (∀ l, l < h.next → hget h'.mem l = hget h.mem l) → Q (.tup [.agg [a, b, c, d], .v (.bool true)]) h') : VC E T 15 [.int .i64 (.ofNat 20), .str s, Le] h Q R := by
  refine Zod h22 h26 h23 h24 h15 hs hb he hel ?_
  intro t' h1 hr hn hf
  rw [← Zgv]
  exact Z7v h22 h26 h23 h24 he hel hr fun h' a b c d h2 h3 h4 => hq h' a b c d h2 (by omega) fun l hl => by rw [h4 l hl, hf l hl]
theorem Z67 (h22 : T 22 = Zhz) (h26 : T 26 = Zhv) (h23 : T 23 = Zhy) (h24 : T 24 = Zhx) (h15 : T 15 = Zvx) {s : List Nat} {es : List V} {Le : D} (hs : s.length ≤ 400) (hb : ∀ x ∈ s, x < 256) (he : XK Rep 4 Le es) (hel : es.length ≤ 1000) (hq : ∀ h' a b c d, Rep (Yw 24 s es) [a, b, c, d] → h.next ≤ h'.next → (∀ l, l < h.next → hget h'.mem l = hget h.mem l) → Q (.tup [.agg [a, b, c, d], .v (.bool true)]) h') : VC E T 15 [.int .i64 (.ofNat 24), .str s, Le] h Q R := by
  refine Zod h22 h26 h23 h24 h15 hs hb he hel ?_
  intro t' h1 hr hn hf
  rw [← Zgv]
  exact Z7u h22 h26 h23 h24 he hel hr fun h' a b c d h2 h3 h4 => hq h' a b c d h2 (by omega) fun l hl => by rw [h4 l hl, hf l hl]
theorem Z66 (h22 : T 22 = Zhz) (h26 : T 26 = Zhv) (h23 : T 23 = Zhy) (h24 : T 24 = Zhx) (h15 : T 15 = Zvx) {k : Int} (k1 : Zb7 k (.ofNat 1) = false) (k2 : Zb7 k (.ofNat 2) = false) (k4 : Zb7 k (.ofNat 4) = false) (k5 : Zb7 k (.ofNat 5) = false) (k8 : Zb7 k (.ofNat 8) = false) (k11 : Zb7 k (.ofNat 11) = false) (k13 : Zb7 k (.ofNat 13) = false) (k15 : Zb7 k (.ofNat 15) = false) (k20 : Zb7 k (.ofNat 20) = false) (k24 : Zb7 k (.ofNat 24) = false) {s : List Nat} {es : List V} {Le : D} (hs : s.length ≤ 400) (hb : ∀ x ∈ s, x < 256) (he : XK Rep 4 Le es) (hel : es.length ≤ 1000) (hq : ∀ h', h.next ≤ h'.next → (∀ l, l < h.next → hget h'.mem l = hget h.mem l) → Q (.tup [.agg [.int .i64 (.ofNat 0), .int .u64 (.ofNat 0), .str [], .v (.slice none 0 0)], .v (.bool false)]) h') : VC E T 15 [.int .i64 k, .str s, Le] h Q R := by
  refine Zod h22 h26 h23 h24 h15 hs hb he hel ?_
  intro t' h1 hr hn hf
  rw [← Zgv]
  exact Z7t h22 h26 h23 h24 he hel k1 k2 k4 k5 k8 k11 k13 k15 k20 k24 hr fun h' h3 h4 => hq h' (by omega) fun l hl => by rw [h4 l hl, hf l hl]
end
end Run
end
end Go.Abs
