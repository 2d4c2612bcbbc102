/- Streams: walks of the program. -/
import Derived.Test.YtlkjicigmhhjbaaGreatDoorTlE
import Derived.Test.YtlkjicigmhhjbaaGreatDoorNdTree
set_option linter.unusedVariables false
set_option linter.unusedSimpArgs false
namespace Go.Abs
noncomputable section
namespace Run
variable {E : Env} {T : Nat → ZE}
set_option maxHeartbeats 4000000
set_option maxRecDepth 100000
attribute [local go_sem] Zny Zib Zn1 Zh9 Zih Zh8 Zie Znx Zid Zic Znw Zbi Zij Zbg Zif Zeg Zbh Vh Zeh Znz Zil Zef Zig Zii Zik Zei Zbf Zej Zn0 Zf5 Zf4 Zia Zjw Zjx Zn5 Zoa Zim Zir Zip Zbk Zbj Vi Zio Zin Zn2 Zek Zit Ziq Zis Zel Zn8 Zn6 Zn9 Zn4 Zjz Zn7 Zj0 Zob Zg5 Zj1 Zof Zoe Zoh Ziu Zog Zxo Zxp Zxm Zxn Zue Zuf Zjc Zjb Zjd Zjj Zji Zjk Zpw Zpv Zfc Zfd Zfb Zot Zkn Zko Zkm Ze9 Zi5 Zby Ze6 Ze7 Zbz Zb0 Zi8 Zi7 Zi6 Zbv Ux Zc1 Zi2 Zo8 Zv4 Z2a UA Uz Zkj Zpi Zb1 Ze5 WS We UD Vp U5 patch Vn Vo Uw Uv Zcg Zcf VL VM Zbe Zfk Zcb UE Vs Uy Zb2 Vm Ws Vq mem_cons Zpq Zo7 Uo Option.map_some Option.map_none Zfa Zgm Zgo Zgn Zpk Zhc Zdu Zkk Zbx Zdw UK UF UL Zch UG UJ UH Vt UI Ze2 Zbt Ze4 Zez Zi4 Ze0 Ze3 Ze1 Zbu Zbs ZX U6 Vc Zfw WW XH Zp3 Zp2 Z51 V5 Zaf Zfo Zc3 Vk Uq Vr WT Wp UN Zba Zck List.drop_succ_cons List.drop_zero List.drop_nil List.take_succ_cons List.take_zero List.take_nil List.length_cons List.length_nil List.length_append List.cons_append List.nil_append Nat.reduceAdd Nat.reduceEqDiff Nat.reduceLeDiff Nat.reduceLT List.cons.injEq reduceCtorEq eq_self not_true_eq_false not_false_eq_true and_false false_and true_or or_true decide_true decide_false Bool.and_self Bool.and_true Bool.true_and Bool.true_or Bool.or_true Bool.false_or Bool.or_false Bool.false_and Bool.and_false Bool.not_true Bool.not_false cond_true cond_false true_and and_true Zg4 Zpg Zpz reduceIte Nat.add_zero Nat.zero_add Nat.add_sub_cancel Nat.reduceMul Nat.reduceSub Nat.reduceBEq List.map_cons List.map_nil Zm Zl WV YG Xu Yn Zj2 Zzl Yv Zdq Up Zj8 Zj7 Zgc Zgb and_assoc exists_and_left D.str.injEq Nat.lt_irrefl Nat.not_lt_zero true_implies false_implies implies_true forall_const ge_iff_le gt_iff_lt Nat.sub_zero List.append_assoc Option.some.injEq AObj.cells.injEq D.int.injEq D.ptr.injEq Int.ofNat.injEq exists_eq_left' D.v.injEq Value.bool.injEq D.agg.injEq Nat.mul_one Zno Zsw Zzj Zhb Zn3 Znk
section
attribute [local go_sem] exists_eq'
variable {h : H} {Q : D → H → Prop} {R : Uk}
def q10 : ZE := Y5 YI (fun t h => YH ⟨[.cN 2 4], .skip⟩ (act t) h)
 (Z0 (Z1<|fo (Za 31 [(.int .i64 (.ofNat 0)),(.int .u64 (.ofNat 0)),(.str []),(.v (.slice none 0 0))]) (St 2)<|Z2)
 (Z0 (Z1<|fo (Yf (kD (.v (.slice none 0 0)))) (St 3)<|Z2)
 (Z0 (Z0 (Z1<|mM 0 6<|fo (u1 V6 (Gt 6)) (St 7)<|fo (Yf (kI 0)) (St 8)<|Z2)
 (Zc 0 (ZI (Z0 (Z1<|fo (Zd Vc .lss 3 (.tmp 8) (.tmp 7) (Gt 8) (Gt 7)) (St 9)<|Z2)
 (Z0 (Z7 (Gt 9) Z8 (ZL 0))
 (Z0 (Zc 1 (Z0 (Z1<|fo (u2 (Vw 4) (Gt 6) (Gt 8)) (St 10)<|fo (Zi 4 (Gt 10)) (St 11)<|fo (Za 31 [(.int .i64 (.ofNat 0)),(.int .u64 (.ofNat 0)),(.str []),(.v (.slice none 0 0))]) (St 5)<|fo (Ze 4 (Gt 5) (Gt 11)) p0<|Z2)
 (Zv <| Zf (Yf (Gt 3)) (St 12) <| Yu 1 [0] (Z9 19 [(kD (.int .u64 (.ofNat 22)))]) (St 13) <| Yu 2 [0] (Z9 19 [(kD (.int .u64 (.ofNat 769)))]) (St 14) <| Yu 3 [0] (Z9 20 []) (St 15) <| Xv 4 [0, 1, 2, 3] 4 (Gt 5) (Zi 4 (Gt 5)) (St 16) <| Zf (Zn 31 1 [(.int .i64 (.ofNat 0)), (.int .u64 (.ofNat 0)), (.str []), (.v (.slice none 0 0))] [(0, 4, (Gt 16))]) (St 17) <| Wi 6 [0] (Z9 21 [(Gt 17)]) (St 18) <| Zf (Zn 31 4 [(.int .i64 (.ofNat 0)), (.int .u64 (.ofNat 0)), (.str []), (.v (.slice none 0 0)), (.int .i64 (.ofNat 0)), (.int .u64 (.ofNat 0)), (.str []), (.v (.slice none 0 0)), (.int .i64 (.ofNat 0)), (.int .u64 (.ofNat 0)), (.str []), (.v (.slice none 0 0)), (.int .i64 (.ofNat 0)), (.int .u64 (.ofNat 0)), (.str []), (.v (.slice none 0 0))] [(0, 4, (Gt 13)), (4, 4, (Gt 14)), (8, 4, (Gt 15)), (12, 4, (Gt 18))]) (St 19) <| Wi 8 [0] (Z9 18 [(Gt 19)]) (St 20) <| Zf (Zn 31 1 [(.int .i64 (.ofNat 0)), (.int .u64 (.ofNat 0)), (.str []), (.v (.slice none 0 0))] [(0, 4, (Gt 20))]) (St 21) <| Yu 10 [] (u2 (YE 31 4 56) (Gt 12) (Gt 21)) (St 22) <| Zf (Yf (Gt 22)) (St 3) <| Zw)))
 (Z1<|fo (Zd Y2 .add 3 (.tmp 8) (.const (.int .i64 (.ofNat 1))) (Gt 8) (kI 1)) (St 23)<|mM 23 8<|Z2)))))))
 (Z0 (Z1<|mM 3 24<|mK 21 [(Gt 24)] 25<|fo (Zn 31 1 [(.int .i64 (.ofNat 0)),(.int .u64 (.ofNat 0)),(.str []),(.v (.slice none 0 0))] [(0,4,(Gt 25))]) (St 26)<|mK 18 [(Gt 26)] 27<|fo (Ze 4 (Gt 2) (Gt 27)) p0<|Z2)
 Zb))))
def q11 : ZE := Y5 YI (fun t h => YH ⟨[.cN 2 4], .skip⟩ (act t) h)
 (Z0 (Z1<|fo (Za 33 [(.int .i64 (.ofNat 0)),(.int .u64 (.ofNat 0)),(.str []),(.v (.slice none 0 0))]) (St 2)<|Z2)
 (Z0 (Z1<|fo (Yf (kD (.v (.slice none 0 0)))) (St 3)<|Z2)
 (Z0 (Z0 (Z1<|fo (Yf (kI 0)) (St 4)<|Z2)
 (Zc 0 (ZI (Z0 (Z0 (Z1<|mM 4 10<|mM 0 11<|fo (u1 V6 (Gt 11)) (St 12)<|fo (Zd Vc .lss 3 (.tmp 10) (.tmp 12) (Gt 10) (Gt 12)) (St 13)<|Z2)
 (Z7 (Gt 13) Z8 (ZL 0)))
 (Z0 (Zc 1 (Z0 (Z1<|mK 22 [(kD (.int .u64 (.ofNat 22)))] 16<|fo (Za 33 [(.int .i64 (.ofNat 0)),(.int .u64 (.ofNat 0)),(.str []),(.v (.slice none 0 0))]) (St 5)<|fo (Ze 4 (Gt 5) (Gt 16)) p0<|Z2)
 (Z0 (Z1<|mK 22 [(kD (.int .u64 (.ofNat 769)))] 17<|fo (Za 33 [(.int .i64 (.ofNat 0)),(.int .u64 (.ofNat 0)),(.str []),(.v (.slice none 0 0))]) (St 6)<|fo (Ze 4 (Gt 6) (Gt 17)) p0<|Z2)
 (Z0 (Z1<|mM 0 18<|mM 4 19<|fo (u2 (Vw 4) (Gt 18) (Gt 19)) (St 20)<|fo (Zi 4 (Gt 20)) (St 21)<|fo (Zn 33 1 [(.int .i64 (.ofNat 0)),(.int .u64 (.ofNat 0)),(.str []),(.v (.slice none 0 0))] [(0,4,(Gt 21))]) (St 22)<|mK 23 [(Gt 22)] 23<|fo (Za 33 [(.int .i64 (.ofNat 0)),(.int .u64 (.ofNat 0)),(.str []),(.v (.slice none 0 0))]) (St 7)<|fo (Ze 4 (Gt 7) (Gt 23)) p0<|Z2)
 (Z0 (Z1<|fo (Zi 4 (Gt 5)) (St 24)<|fo (Zi 4 (Gt 6)) (St 25)<|fo (Zy [(.int .i64 (.ofNat 0)),(.int .u64 (.ofNat 0)),(.str []),(.v (.slice none 0 0))] []) (St 26)<|fo (Zi 4 (Gt 7)) (St 27)<|fo (Zn 33 4 [(.int .i64 (.ofNat 0)),(.int .u64 (.ofNat 0)),(.str []),(.v (.slice none 0 0)),(.int .i64 (.ofNat 0)),(.int .u64 (.ofNat 0)),(.str []),(.v (.slice none 0 0)),(.int .i64 (.ofNat 0)),(.int .u64 (.ofNat 0)),(.str []),(.v (.slice none 0 0)),(.int .i64 (.ofNat 0)),(.int .u64 (.ofNat 0)),(.str []),(.v (.slice none 0 0))] [(0,4,(Gt 24)),(4,4,(Gt 25)),(8,4,(Gt 26)),(12,4,(Gt 27))]) (St 28)<|mK 24 [(Gt 28)] 29<|fo (Za 33 [(.int .i64 (.ofNat 0)),(.int .u64 (.ofNat 0)),(.str []),(.v (.slice none 0 0))]) (St 8)<|fo (Ze 4 (Gt 8) (Gt 29)) p0<|Z2)
 (Z1<|mM 3 30<|fo (Zi 4 (Gt 8)) (St 31)<|fo (Zn 33 1 [(.int .i64 (.ofNat 0)),(.int .u64 (.ofNat 0)),(.str []),(.v (.slice none 0 0))] [(0,4,(Gt 31))]) (St 32)<|fo (u2 (YE 33 4 56) (Gt 30) (Gt 32)) (St 33)<|mM 33 3<|Z2))))))
 (Z1<|mM 4 14<|fo (Zd Y2 .add 3 (.tmp 14) (.const (.int .i64 (.ofNat 1))) (Gt 14) (kI 1)) (St 15)<|mM 15 4<|Z2))))))
 (Z0 (Z1<|mM 3 34<|mK 23 [(Gt 34)] 35<|fo (Za 33 [(.int .i64 (.ofNat 0)),(.int .u64 (.ofNat 0)),(.str []),(.v (.slice none 0 0))]) (St 9)<|fo (Ze 4 (Gt 9) (Gt 35)) p0<|Z2)
 (Z0 (Z1<|fo (Zi 4 (Gt 9)) (St 36)<|fo (Zn 33 1 [(.int .i64 (.ofNat 0)),(.int .u64 (.ofNat 0)),(.str []),(.v (.slice none 0 0))] [(0,4,(Gt 36))]) (St 37)<|mK 24 [(Gt 37)] 38<|fo (Ze 4 (Gt 2) (Gt 38)) p0<|Z2)
 Zb)))))
def Zo6 (x : V) : V := Zyh [Zsa 22, Zsa 769, Zdm, Zra [x]]
def Zur (xs : List V) : V := Zyh [Zra (xs.map Zo6)]
theorem Zzw {x : V} {a b c d : D} {i j : Nat} (hx : Rep x [a, b, c, d]) : Rep (Zo6 x) [.int .i64 (.ofNat 4), .int .u64 (.ofNat 0), .str [], .sl i 4 [.int .i64 (.ofNat 1), .int .u64 (.ofNat 22), .str [], .v (.slice none 0 0), .int .i64 (.ofNat 1), .int .u64 (.ofNat 769), .str [], .v (.slice none 0 0), .int .i64 (.ofNat 0), .int .u64 (.ofNat 0), .str [], .v (.slice none 0 0), .int .i64 (.ofNat 3), .int .u64 (.ofNat 0), .str [], .sl j 1 [a, b, c, d]]] :=
  ZW (by simp) (Yl (Zp ZZ (Zp ZZ (Zp ZZ (Zp (ZW (by simp) (Yl (Zp hx Y1) rfl (by simp))) Y1)))) rfl (by simp))
abbrev IS (h : H) (ty si : Nat) (L3 : List V) (xs : List V) (Pre : Tr D → Prop) (m : Nat) (t1 : Tr D) (h1 : H) : Prop :=
  h.next + 1 ≤ h1.next ∧ (∀ l, l < h.next → hget h1.mem l = hget h.mem l) ∧ Pre t1 ∧ Gt 2 t1 = .ptr h.next 0 ∧ hget h1.mem h.next = some (.cells ty [.int .i64 (.ofNat 0), .int .u64 (.ofNat 0), .str [], .v (.slice none 0 0)]) ∧ ∃ i, Gt si t1 = .int .i64 (.ofNat i) ∧ i + m = xs.length ∧ ∃ rest, xs.drop i = rest ∧ ∃ ws, XK Rep 4 (Gt 3 t1) ws ∧ Tp h1 ty (Gt 3 t1) ws.length ∧ Zzh (Gt 3 t1) h1.next ∧ UP (Gt 3 t1) (.v (.slice none 0 0)) (h.next + 1) ∧ ws ++ rest.map Zo6 = L3
theorem vc10 (h20 : T 20 = Zh0) (h19 : T 19 = Zh1) (h25 : T 25 = Zhw) (h21 : T 21 = Zju) (h18 : T 18 = Zjv) (h10 : T 10 = q10) {Ls : D} {xs : List V} (hx : XK Rep 4 Ls xs) (hn : xs.length ≤ 5) (hq : ∀ h' a b c d, Rep (Zur xs) [a, b, c, d] → h.next ≤ h'.next → (∀ l, l < h.next → hget h'.mem l = hget h.mem l) → Q (.agg [a, b, c, d]) h') : VC E T 10 [Ls] h Q R := by
  have hln : ∀ m, Zgk Ls m = .ok (.int .i64 (.ofNat xs.length)) m := fun m => hx.len m
  unfold Zur at hq
  generalize hL3 : xs.map Zo6 = L3 at hq
  have hLl : L3.length = xs.length := by rw [← hL3, List.length_map]
  refine YK h10 ?_
  unfold YI
  repeat' (with_reducible (first | refine ZA ?_ | refine ZB ?_ | refine ZQ ?_ | refine ZP ?_ | refine ZD ?_ | refine Zt ?_ | refine ZC ?_ | refine ZR ?_ | refine ZO ?_ | refine ZG ?_ | refine ZS ?_ | refine Zdb h20 ?_ | refine Zdc h19 ?_ | refine Zda h25 ?_ | refine Zem h21 ?_ ?_ ?_ | refine Zen h18 ?_ ?_ ?_ | simp (maxSteps := 2000000) (disch := first | assumption | (show WN _ _; first | assumption | ((iterate 6 (try refine X5 (by assumption) (by omega) ?_)); first | assumption | exact X4 (by assumption) (by omega) | exact X3 (by assumption) (by assumption) | exact Yv | exact Vv (by assumption) (by assumption) (by assumption) (by omega) (by assumption))) | exact Yt (by omega) | omega | (simp only [Zm, Zl, List.length_cons, List.length_nil, List.length_append, List.length_take, List.length_drop]; omega) | fail) only [go_sem, -Int.reduceOfNat, *] | ((first | refine Yh ?_ ?_ | refine ZV ?_ ?_ | refine Yg ?_ ?_ | refine ZT ?_ ?_ | refine ZU ?_ ?_ | refine ZH ?_ ?_) <;> intro _) | (refine Zah (IS h 31 8 L3 xs (fun t1 => Gt 6 t1 = Ls ∧ Gt 7 t1 = .int .i64 (.ofNat xs.length))) (n := xs.length) ?_ ?_) | (refine ⟨[], XK.nil, ?_⟩) | exact Tp.nil | exact Zns | exact UP.refl | exact hL3 | assumption | exact trivial | (show _ < _; omega) | (show _ ≤ _; omega) | (show ¬ (_ : Nat) = _; omega) | (show (_ : Nat) ≠ _; omega) | (show (_ : Nat) = _; omega) | (intro _; intros) | (refine ⟨_, by assumption, ?_⟩) | refine And.intro ?_ ?_))
  all_goals
    rintro m t1 h1 ⟨gn, gf, ⟨g6, g7⟩, g2, gc, i, gi, gm, rest, gr, ws, gS, gT, gB, gI, gx⟩
    have gone := Y3 gS
    have gcel := ZF gS
    have gsm := Zq gS
    have gwl : ws.length ≤ xs.length := by rw [← hLl, ← gx, List.length_append]; omega
    generalize hd3 : Gt 3 t1 = d3 at gS gT gB gI gone gcel gsm
    cases rest with
    | nil =>
      have := Zd3 gr
      obtain rfl : m = 0 := by omega
      obtain rfl : i = xs.length := by omega
      simp only [List.map_nil, List.append_nil] at gx
      subst gx
      clear gr this hL3 hLl
      repeat' (with_reducible (first | refine ZA ?_ | refine ZB ?_ | refine ZQ ?_ | refine ZP ?_ | refine ZD ?_ | refine Zt ?_ | refine ZC ?_ | refine ZR ?_ | refine ZO ?_ | refine ZG ?_ | refine ZS ?_ | refine Zdb h20 ?_ | refine Zdc h19 ?_ | refine Zda h25 ?_ | refine Zem h21 ?_ ?_ ?_ | refine Zen h18 ?_ ?_ ?_ | simp (maxSteps := 2000000) (disch := first | assumption | (show WN _ _; first | assumption | ((iterate 6 (try refine X5 (by assumption) (by omega) ?_)); first | assumption | exact X4 (by assumption) (by omega) | exact X3 (by assumption) (by assumption) | exact Yv | exact Vv (by assumption) (by assumption) (by assumption) (by omega) (by assumption))) | exact Yt (by omega) | omega | (simp only [Zm, Zl, List.length_cons, List.length_nil, List.length_append, List.length_take, List.length_drop]; omega) | fail) only [go_sem, -Int.reduceOfNat, *] | ((first | refine Yh ?_ ?_ | refine ZV ?_ ?_ | refine Yg ?_ ?_ | refine ZT ?_ ?_ | refine ZU ?_ ?_ | refine ZH ?_ ?_) <;> intro _) | (show Q _ _; refine hq _ _ _ _ _ ?_ ?_ ?_) | exact Zq (by assumption) | (refine Yl ?_ (by simp) (by simp)) | (refine Zp ?_ ?_) | exact Y1 | exact ZZ | (refine ZW (by first | omega | simp) ?_) | (refine ZW ?_ (by assumption)) | assumption | exact trivial | (show _ < _; omega) | (show _ ≤ _; omega) | (show ¬ (_ : Nat) = _; omega) | (show (_ : Nat) ≠ _; omega) | (show (_ : Nat) = _; omega) | (intro _; intros) | (refine ⟨_, by assumption, ?_⟩) | refine And.intro ?_ ?_))
    | cons x r =>
      have hi := Zkw gr
      obtain ⟨hg, hr1⟩ := Zd4 gr
      obtain ⟨a, b, e, f, rs, hrep, hix⟩ := Zj6 hx hg
      obtain ⟨k, n, bb, l⟩ := x
      obtain ⟨L, hcc, _, hs⟩ := hrep.inv
      simp only [List.cons.injEq, and_true] at hcc
      obtain ⟨rfl, rfl, rfl, rfl⟩ := hcc
      have lone := Y3 hs
      have lcel := ZF hs
      have lsm := Zq hs
      have gx' : ws ++ [Zo6 (.mk k n bb l)] ++ r.map Zo6 = L3 := by rw [← gx]; simp
      clear gr hg gx hL3 hs hq
      repeat' (with_reducible (first | refine ZA ?_ | refine ZB ?_ | refine ZQ ?_ | refine ZP ?_ | refine ZD ?_ | refine Zt ?_ | refine ZC ?_ | refine ZR ?_ | refine ZO ?_ | refine ZG ?_ | refine ZS ?_ | refine Zdb h20 ?_ | refine Zdc h19 ?_ | refine Zda h25 ?_ | refine Zem h21 ?_ ?_ ?_ | refine Zen h18 ?_ ?_ ?_ | simp (maxSteps := 2000000) (disch := first | assumption | (show WN _ _; first | assumption | ((iterate 6 (try refine X5 (by assumption) (by omega) ?_)); first | assumption | exact X4 (by assumption) (by omega) | exact X3 (by assumption) (by assumption) | exact Yv | exact Vv (by assumption) (by assumption) (by assumption) (by omega) (by assumption))) | exact Yt (by omega) | omega | (simp only [Zm, Zl, List.length_cons, List.length_nil, List.length_append, List.length_take, List.length_drop]; omega) | fail) only [go_sem, -Int.reduceOfNat, *] | ((first | refine Yh ?_ ?_ | refine ZV ?_ ?_ | refine Yg ?_ ?_ | refine ZT ?_ ?_ | refine ZU ?_ ?_ | refine ZH ?_ ?_) <;> intro _) | (refine Zct (xs := ws) (ys := [Zo6 (.mk k n bb l)]) gS (Tp.mono gT ?_ (fun _ _ _ => ?_)) (Zp ?_ ?_) rfl (by omega) (by omega) (by omega) ?_) | (refine ⟨m - 1, by omega, ?_⟩) | exact gx' | exact Zzw (by assumption) | (refine Zk0 (by assumption) ?_) | (refine UP.trans (by assumption) (by first | omega | (simp only [Zm, Zl]; omega)) ?_) | (refine Tp.mono (by assumption) ?_ (fun _ _ _ => ?_)) | exact Zq (by assumption) | (refine Yl ?_ (by simp) (by simp)) | (refine Zp ?_ ?_) | exact Y1 | exact ZZ | (refine ZW (by first | omega | simp) ?_) | assumption | exact trivial | (show _ < _; omega) | (show _ ≤ _; omega) | (show ¬ (_ : Nat) = _; omega) | (show (_ : Nat) ≠ _; omega) | (show (_ : Nat) = _; omega) | (intro _; intros) | (refine ⟨_, by assumption, ?_⟩) | refine And.intro ?_ ?_))
theorem vc11 (h22 : T 22 = Zhz) (h26 : T 26 = Zhv) (h23 : T 23 = Zhy) (h24 : T 24 = Zhx) (h11 : T 11 = q11) {Ls : D} {xs : List V} (hx : XK Rep 4 Ls xs) (hn : xs.length ≤ 5) (hq : ∀ h' a b c d, Rep (Zur xs) [a, b, c, d] → h.next ≤ h'.next → (∀ l, l < h.next → hget h'.mem l = hget h.mem l) → Q (.agg [a, b, c, d]) h') : VC E T 11 [Ls] h Q R := by
  have hln : ∀ m, Zgk Ls m = .ok (.int .i64 (.ofNat xs.length)) m := fun m => hx.len m
  unfold Zur at hq
  generalize hL3 : xs.map Zo6 = L3 at hq
  have hLl : L3.length = xs.length := by rw [← hL3, List.length_map]
  refine YK h11 ?_
  unfold YI
  repeat' (with_reducible (first | refine ZA ?_ | refine ZB ?_ | refine ZQ ?_ | refine ZP ?_ | refine ZD ?_ | refine Zt ?_ | refine ZC ?_ | refine ZR ?_ | refine ZO ?_ | refine ZG ?_ | refine ZS ?_ | refine Zud h22 ?_ | refine Zua h26 ?_ | refine Zuc h23 ?_ ?_ ?_ | refine Zub h24 ?_ ?_ ?_ | simp (maxSteps := 2000000) (disch := first | assumption | (show WN _ _; first | assumption | ((iterate 6 (try refine X5 (by assumption) (by omega) ?_)); first | assumption | exact X4 (by assumption) (by omega) | exact X3 (by assumption) (by assumption) | exact Yv | exact Vv (by assumption) (by assumption) (by assumption) (by omega) (by assumption))) | exact Yt (by omega) | omega | (simp only [Zm, Zl, List.length_cons, List.length_nil, List.length_append, List.length_take, List.length_drop]; omega) | fail) only [go_sem, -Int.reduceOfNat, *] | ((first | refine Yh ?_ ?_ | refine ZV ?_ ?_ | refine Yg ?_ ?_ | refine ZT ?_ ?_ | refine ZU ?_ ?_ | refine ZH ?_ ?_) <;> intro _) | (refine Zah (IS h 33 4 L3 xs (fun t1 => Gt 0 t1 = Ls)) (n := xs.length) ?_ ?_) | (refine ⟨[], XK.nil, ?_⟩) | exact Tp.nil | exact Zns | exact UP.refl | exact hL3 | assumption | exact trivial | (show _ < _; omega) | (show _ ≤ _; omega) | (show ¬ (_ : Nat) = _; omega) | (show (_ : Nat) ≠ _; omega) | (show (_ : Nat) = _; omega) | (intro _; intros) | (refine ⟨_, by assumption, ?_⟩) | refine And.intro ?_ ?_))
  all_goals
    rintro m t1 h1 ⟨gn, gf, g0, g2, gc, i, gi, gm, rest, gr, ws, gS, gT, gB, gI, gx⟩
    have gone := Y3 gS
    have gcel := ZF gS
    have gsm := Zq gS
    have gwl : ws.length ≤ xs.length := by rw [← hLl, ← gx, List.length_append]; omega
    generalize hd3 : Gt 3 t1 = d3 at gS gT gB gI gone gcel gsm
    cases rest with
    | nil =>
      have := Zd3 gr
      obtain rfl : m = 0 := by omega
      obtain rfl : i = xs.length := by omega
      simp only [List.map_nil, List.append_nil] at gx
      subst gx
      clear gr this hL3 hLl
      repeat' (with_reducible (first | refine ZA ?_ | refine ZB ?_ | refine ZQ ?_ | refine ZP ?_ | refine ZD ?_ | refine Zt ?_ | refine ZC ?_ | refine ZR ?_ | refine ZO ?_ | refine ZG ?_ | refine ZS ?_ | refine Zud h22 ?_ | refine Zua h26 ?_ | refine Zuc h23 ?_ ?_ ?_ | refine Zub h24 ?_ ?_ ?_ | simp (maxSteps := 2000000) (disch := first | assumption | (show WN _ _; first | assumption | ((iterate 6 (try refine X5 (by assumption) (by omega) ?_)); first | assumption | exact X4 (by assumption) (by omega) | exact X3 (by assumption) (by assumption) | exact Yv | exact Vv (by assumption) (by assumption) (by assumption) (by omega) (by assumption))) | exact Yt (by omega) | omega | (simp only [Zm, Zl, List.length_cons, List.length_nil, List.length_append, List.length_take, List.length_drop]; omega) | fail) only [go_sem, -Int.reduceOfNat, *] | ((first | refine Yh ?_ ?_ | refine ZV ?_ ?_ | refine Yg ?_ ?_ | refine ZT ?_ ?_ | refine ZU ?_ ?_ | refine ZH ?_ ?_) <;> intro _) | (show Q _ _; refine hq _ _ _ _ _ ?_ ?_ ?_) | exact Zq (by assumption) | (refine Yl ?_ (by simp) (by simp)) | (refine Zp ?_ ?_) | exact Y1 | exact ZZ | (refine ZW (by first | omega | simp) ?_) | (refine ZW ?_ (by assumption)) | assumption | exact trivial | (show _ < _; omega) | (show _ ≤ _; omega) | (show ¬ (_ : Nat) = _; omega) | (show (_ : Nat) ≠ _; omega) | (show (_ : Nat) = _; omega) | (intro _; intros) | (refine ⟨_, by assumption, ?_⟩) | refine And.intro ?_ ?_))
    | cons x r =>
      have hi := Zkw gr
      obtain ⟨hg, hr1⟩ := Zd4 gr
      obtain ⟨a, b, e, f, rs, hrep, hix⟩ := Zj6 hx hg
      obtain ⟨k, n, bb, l⟩ := x
      obtain ⟨L, hcc, _, hs⟩ := hrep.inv
      simp only [List.cons.injEq, and_true] at hcc
      obtain ⟨rfl, rfl, rfl, rfl⟩ := hcc
      have lone := Y3 hs
      have lcel := ZF hs
      have lsm := Zq hs
      have gx' : ws ++ [Zo6 (.mk k n bb l)] ++ r.map Zo6 = L3 := by rw [← gx]; simp
      clear gr hg gx hL3 hs hq
      repeat' (with_reducible (first | refine ZA ?_ | refine ZB ?_ | refine ZQ ?_ | refine ZP ?_ | refine ZD ?_ | refine Zt ?_ | refine ZC ?_ | refine ZR ?_ | refine ZO ?_ | refine ZG ?_ | refine ZS ?_ | refine Zud h22 ?_ | refine Zua h26 ?_ | refine Zuc h23 ?_ ?_ ?_ | refine Zub h24 ?_ ?_ ?_ | simp (maxSteps := 2000000) (disch := first | assumption | (show WN _ _; first | assumption | ((iterate 6 (try refine X5 (by assumption) (by omega) ?_)); first | assumption | exact X4 (by assumption) (by omega) | exact X3 (by assumption) (by assumption) | exact Yv | exact Vv (by assumption) (by assumption) (by assumption) (by omega) (by assumption))) | exact Yt (by omega) | omega | (simp only [Zm, Zl, List.length_cons, List.length_nil, List.length_append, List.length_take, List.length_drop]; omega) | fail) only [go_sem, -Int.reduceOfNat, *] | ((first | refine Yh ?_ ?_ | refine ZV ?_ ?_ | refine Yg ?_ ?_ | refine ZT ?_ ?_ | refine ZU ?_ ?_ | refine ZH ?_ ?_) <;> intro _) | (refine Z7i (xs := ws) (ys := [Zo6 (.mk k n bb l)]) gS (Tp.mono gT ?_ (fun _ _ _ => ?_)) (Zp ?_ ?_) rfl (by omega) (by omega) (by omega) ?_) | (refine ⟨m - 1, by omega, ?_⟩) | exact gx' | exact Zzw (by assumption) | (refine Zk0 (by assumption) ?_) | (refine UP.trans (by assumption) (by first | omega | (simp only [Zm, Zl]; omega)) ?_) | (refine Tp.mono (by assumption) ?_ (fun _ _ _ => ?_)) | exact Zq (by assumption) | (refine Yl ?_ (by simp) (by simp)) | (refine Zp ?_ ?_) | exact Y1 | exact ZZ | (refine ZW (by first | omega | simp) ?_) | assumption | exact trivial | (show _ < _; omega) | (show _ ≤ _; omega) | (show ¬ (_ : Nat) = _; omega) | (show (_ : Nat) ≠ _; omega) | (show (_ : Nat) = _; omega) | (intro _; intros) | (refine ⟨_, by assumption, ?_⟩) | refine And.intro ?_ ?_))
end
section
variable {h : H} {Q : D → H → Prop} {R : Uk}
def q4 : ZE := Y5 YI (fun t h => YH ⟨[.cN 2 4, .cN 3 4, .t 4, .t 5], .skip⟩ (act t) h)
 (Z0 (Z1<|fo (Ye 27 (Gt 0)) (St 1)<|fo (Za 31 [(.int .i64 (.ofNat 0)),(.int .u64 (.ofNat 0)),(.str []),(.v (.slice none 0 0))]) (St 2)<|fo (Za 33 [(.int .i64 (.ofNat 0)),(.int .u64 (.ofNat 0)),(.str []),(.v (.slice none 0 0))]) (St 3)<|fo (Yf (kD (.v (.bool false)))) (St 4)<|fo (Yf (kD (.v (.bool false)))) (St 5)<|Z2)
 (Z0 (Z1<|mF 1 1 14<|mL 14 15<|mF 1 1 16<|mL 16 17<|fo (u1 Va (Gt 17)) (St 18)<|fo (Zqv .min #[3,3] 3 #[false,true] [(Gt 18),(kI 400)]) (St 19)<|fo (XQ (Gt 15) none (some (Gt 19))) (St 20)<|mF 1 1 21<|mS 21 (Gt 20)<|Z2)
 (Z0 (Z1<|fo (Yf (kD (.v (.slice none 0 0)))) (St 6)<|Z2)
 (Z0 (Z1<|fo (Yf (kD (.v (.slice none 0 0)))) (St 7)<|Z2)
 (Z0 (Z0 (Z1<|mF 2 1 22<|mL 22 23<|mF 2 1 24<|mL 24 25<|fo (u1 V6 (Gt 25)) (St 26)<|fo (Zqv .min #[3,3] 3 #[false,true] [(Gt 26),(kI 6)]) (St 27)<|fo (uo (Zav 2) (Gt 23) none (some (Gt 27))) (St 28)<|fo (u1 V6 (Gt 28)) (St 29)<|fo (Yf (kI 0)) (St 30)<|Z2)
 (Zc 0 (ZI (Z0 (Z1<|fo (Zd Vc .lss 3 (.tmp 30) (.tmp 29) (Gt 30) (Gt 29)) (St 31)<|Z2)
 (Z0 (Z7 (Gt 31) Z8 (ZL 0))
 (Z0 (Zc 1 (Z0 (Z1<|fo (u2 (Vw 2) (Gt 28) (Gt 30)) (St 32)<|fo (Zi 2 (Gt 32)) (St 33)<|fo (Za 46 [(.int .u16 (.ofNat 0)),(.str [])]) (St 9)<|fo (Ze 2 (Gt 9) (Gt 33)) p0<|Z2)
 (Z0 (Z1<|mF 1 9 34<|mL 34 35<|mF 1 9 36<|mL 36 37<|fo (u1 Va (Gt 37)) (St 38)<|fo (Zqv .min #[3,3] 3 #[false,true] [(Gt 38),(kI 40)]) (St 39)<|fo (XQ (Gt 35) none (some (Gt 39))) (St 40)<|mF 1 9 41<|mS 41 (Gt 40)<|Z2)
 (Zv <| Zf (Yf (Gt 6)) (St 42) <| Zf (u1 (Zcq 0) (Gt 9)) (St 43) <| Xv 2 [0] 1 (Gt 43) (ZJ (Gt 43)) (St 44) <| Zf (Xq .u64 (Gt 44)) (St 45) <| Zf (u1 (Zcq 1) (Gt 9)) (St 46) <| Xv 5 [0, 1, 2, 3] 1 (Gt 46) (ZJ (Gt 46)) (St 47) <| Yu 6 [0] (Z9 12 [(Gt 45), (Gt 47)]) (St 48) <| Zf (Zn 31 1 [(.int .i64 (.ofNat 0)), (.int .u64 (.ofNat 0)), (.str []), (.v (.slice none 0 0))] [(0, 4, (Gt 48))]) (St 49) <| Yu 8 [] (u2 (YE 31 4 56) (Gt 42) (Gt 49)) (St 50) <| Zf (Yf (Gt 7)) (St 51) <| Zf (u1 (Zcq 0) (Gt 9)) (St 52) <| Xv 11 [0, 1, 2, 3, 4, 5, 6, 7, 8, 9] 1 (Gt 52) (ZJ (Gt 52)) (St 53) <| Zf (Xq .u64 (Gt 53)) (St 54) <| Zf (u1 (Zcq 1) (Gt 9)) (St 55) <| Xv 14 [0, 1, 2, 3, 4, 5, 6, 7, 8, 9, 10, 11, 12] 1 (Gt 55) (ZJ (Gt 55)) (St 56) <| Wi 15 [9] (Z9 13 [(Gt 54), (Gt 56)]) (St 57) <| Zf (Zn 33 1 [(.int .i64 (.ofNat 0)), (.int .u64 (.ofNat 0)), (.str []), (.v (.slice none 0 0))] [(0, 4, (Gt 57))]) (St 58) <| Yu 17 [] (u2 (YE 33 4 56) (Gt 51) (Gt 58)) (St 59) <| Zf (Yf (Gt 50)) (St 6) <| Zf (Yf (Gt 59)) (St 7) <| Zw))))
 (Z1<|fo (Zd Y2 .add 3 (.tmp 30) (.const (.int .i64 (.ofNat 1))) (Gt 30) (kI 1)) (St 60)<|mM 60 30<|Z2)))))))
 (Z0 (Z1<|mF 0 1 62<|mL 62 63<|mF 1 1 64<|mL 64 65<|mM 6 66<|mK 14 [(Gt 63),(Gt 65),(Gt 66)] 67<|mM 67 61<|mE 0 61 68<|mE 1 61 69<|fo (Za 31 [(.int .i64 (.ofNat 0)),(.int .u64 (.ofNat 0)),(.str []),(.v (.slice none 0 0))]) (St 10)<|fo (Ze 4 (Gt 10) (Gt 68)) p0<|mM 69 11<|Z2)
 (Z0 (Z1<|mF 0 1 71<|mL 71 72<|mF 1 1 73<|mL 73 74<|mM 7 75<|mK 15 [(Gt 72),(Gt 74),(Gt 75)] 76<|mM 76 70<|mE 0 70 77<|mE 1 70 78<|fo (Za 33 [(.int .i64 (.ofNat 0)),(.int .u64 (.ofNat 0)),(.str []),(.v (.slice none 0 0))]) (St 12)<|fo (Ze 4 (Gt 12) (Gt 77)) p0<|mM 78 13<|Z2)
 (Z0 (Zv<|Xv 0 [] 4 (Gt 10) (Zi 4 (Gt 10)) (St 79)<|Xv 1 [0] 4 (Gt 12) (Zi 4 (Gt 12)) (St 80)<|Zf (Yf (Gt 11)) (St 81)<|Zf (Yf (Gt 13)) (St 82)<|Yu 4 [1,2,3] (Ze 4 (Gt 2) (Gt 79)) p0<|Yu 5 [2,3] (Ze 4 (Gt 3) (Gt 80)) p0<|Zf (Yf (Gt 81)) (St 4)<|Zf (Yf (Gt 82)) (St 5)<|Zw)
 Zb))))))))
theorem Zrz {v : V} {c : List D} (h : Rep v c) : ∃ k n b L, c = [.int .i64 (.ofNat k), .int .u64 (.ofNat n), .str b, L] ∧ D.cells L = [L] ∧ D.one L = true ∧ D.same L L = true := by
  obtain ⟨k, n, b, l⟩ := v
  obtain ⟨L, rfl, _, hs⟩ := h.inv
  exact ⟨_, _, _, _, rfl, ZF hs, Y3 hs, Zq hs⟩
theorem Z4b {h : H} {a b : TypeId} {d e : D} {n m : Nat} (h1 : Tp h a d n) (h2 : Tp h b e m) (hab : a ≠ b) : Sep d e := fun l hd he => by
  have := (h1 l hd).2.symm.trans (h2 l he).2
  simp only [Option.some.injEq, AObj.tip.injEq] at this
  exact hab this.2
theorem Zrf.cel {α : Type} {F : α → List D → Prop} {z : Nat} {d : D} {xs : List α} (hr : Zrf F z d xs) : d.cells = [d] := by
  obtain ⟨cs, r, _, ⟨rfl, rfl⟩ | ⟨id, rfl⟩⟩ := hr <;> rfl
theorem Zrf.on {α : Type} {F : α → List D → Prop} {z : Nat} {d : D} {xs : List α} (hr : Zrf F z d xs) : d.one = true := by
  obtain ⟨cs, r, _, ⟨rfl, rfl⟩ | ⟨id, rfl⟩⟩ := hr <;> rfl
def Z2w (e : Nat × List Nat) (c : List D) : Prop := c = [.int .u16 (.ofNat e.1), .str e.2]
theorem Zrf.ext {d : D} {xs : List (Nat × List Nat)} (hr : Zrf Z2w 2 d xs) {i : Nat} {x : Nat × List Nat} (hx : xs[i]? = some x) : ∃ rest, ∀ (kk : IntKind) (h : H), Zgl 2 d (.int kk (.ofNat i)) h = .ok (.ep (.int .u16 (.ofNat x.1) :: .str x.2 :: rest)) h := by
  obtain ⟨cs, hw, hl, hd⟩ := hr
  have hi : i < xs.length := (List.getElem?_eq_some_iff.1 hx).1
  have hc : cs[i]? = some (cs[i]'(by rw [hw.1]; exact hi)) := List.getElem?_eq_getElem (by rw [hw.1]; exact hi)
  have h1 : cs[i]'(by rw [hw.1]; exact hi) = [.int .u16 (.ofNat x.1), .str x.2] := hw.2 i x _ hx hc
  rcases hd with ⟨rfl, _⟩ | ⟨id, rfl⟩
  · simp at hx
  have hf := Zb8 hl (i := i) (by rw [hw.1]; exact hi)
  rw [h1] at hf
  exact ⟨_, fun kk h => Ze8 (by rw [hw.1]; exact hi) hf⟩
def oFour (o1 o2 : Option (List D)) (d e : D) (h : H) : O D :=
  match o1, o2 with
  | some a, some b => .ok (.tup [.agg a, .agg b, d, e]) h
  | _, _ => .fail "results"
theorem Zyd {a b : List D} {d e : D} {h : H} : oFour (some a) (some b) d e h = .ok (.tup [.agg a, .agg b, d, e]) h := rfl
theorem Z2p {n s m r i j : Nat} {c : CC} {t : Tr D} {h : H} : YH ⟨[.cN n s, .cN m r, .t i, .t j], c⟩ (act t) h = oFour (Zk h (Gt n t) s) (Zk h (Gt m t) r) (Gt i t) (Gt j t) h := by
  simp only [Znr, Zan, WE, Gt, geq]
  cases Zk h ((act t).eval (.t n)) s <;> cases Zk h ((act t).eval (.t m)) r <;> rfl
def m40 (s : List Nat) : List Nat := s.take (min s.length 40)
def Zy0 (e : Nat × List Nat) : V := Zyh [Zsa e.1, Zdm, Zwa (m40 e.2)]
theorem Z8o {n : Nat} {sd : List Nat} {c : List D} (h : Rep (Zyh [Zsa n, Zdm, Zwa (m40 sd)]) c) : Rep (Zy0 (n, sd)) c := h
def mV (k : Int) (s : List Nat) (es : List V) : V × Bool :=
  if k = .ofNat 1 then (Yw 1 s es, true) else if k = .ofNat 2 then (Yw 2 s es, true) else if k = .ofNat 4 then (Yw 4 s es, true) else if k = .ofNat 5 then (Yw 5 s es, true) else if k = .ofNat 8 then (Yw 8 s es, true) else if k = .ofNat 11 then (Yw 11 s es, true) else if k = .ofNat 13 then (Yw 13 s es, true) else if k = .ofNat 15 then (Yw 15 s es, true) else if k = .ofNat 20 then (Yw 20 s es, true) else if k = .ofNat 24 then (Yw 24 s es, true) else (Zdm, false)
theorem vc12_a (h20 : T 20 = Zh0) (h19 : T 19 = Zh1) (h25 : T 25 = Zhw) (h21 : T 21 = Zju) (h18 : T 18 = Zjv) (h12 : T 12 = q12) {n : Nat} {s : List Nat} (hq : ∀ h' L, Rep (Zyh [Zsa n, Zdm, Zwa s]) [.int .i64 (.ofNat 4), .int .u64 (.ofNat 0), .str [], L] → L.cells = [L] → L.one = true → L.same L = true → h.next ≤ h'.next → (∀ l, l < h.next → hget h'.mem l = hget h.mem l) → Q (.agg [.int .i64 (.ofNat 4), .int .u64 (.ofNat 0), .str [], L]) h') : VC E T 12 [.int .u64 (.ofNat n), .str s] h Q R :=
  vc12 h20 h19 h25 h21 h18 h12 fun h' L hs hn hf => hq h' L (ZW (by simp) hs) (ZF hs) (Y3 hs) (Zq hs) hn hf
theorem vc13_a (h22 : T 22 = Zhz) (h26 : T 26 = Zhv) (h23 : T 23 = Zhy) (h24 : T 24 = Zhx) (h13 : T 13 = q13) {n : Nat} {s : List Nat} (hq : ∀ h' L, Rep (Zyh [Zsa n, Zdm, Zwa s]) [.int .i64 (.ofNat 4), .int .u64 (.ofNat 0), .str [], L] → L.cells = [L] → L.one = true → L.same L = true → h.next ≤ h'.next → (∀ l, l < h.next → hget h'.mem l = hget h.mem l) → Q (.agg [.int .i64 (.ofNat 4), .int .u64 (.ofNat 0), .str [], L]) h') : VC E T 13 [.int .u64 (.ofNat n), .str s] h Q R :=
  vc13 h22 h26 h23 h24 h13 fun h' L hs hn hf => hq h' L (ZW (by simp) hs) (ZF hs) (Y3 hs) (Zq hs) hn hf
theorem vc14_a (h20 : T 20 = Zh0) (h19 : T 19 = Zh1) (h25 : T 25 = Zhw) (h21 : T 21 = Zju) (h18 : T 18 = Zjv) (h38 : T 38 = Zlr) (h39 : T 39 = Zlq) (h28 : T 28 = Zmo) (h6 : T 6 = q6) (h37 : T 37 = Zt2) (h27 : T 27 = Zvw) (h14 : T 14 = Zxe) (hr : T 60 = Wv Y4) {s : List Nat} (hs : s.length ≤ 400) {es : List V} {Le : D} (he : XK Rep 4 Le es) (hel : es.length ≤ 1000) {k : Int} (hq : ∀ h' kk nn bb L, Rep (mV k s es).1 [.int .i64 (.ofNat kk), .int .u64 (.ofNat nn), .str bb, L] → L.cells = [L] → L.one = true → L.same L = true → h.next ≤ h'.next → (∀ l, l < h.next → hget h'.mem l = hget h.mem l) → Q (.tup [.agg [.int .i64 (.ofNat kk), .int .u64 (.ofNat nn), .str bb, L], .v (.bool (mV k s es).2)]) h') : VC E T 14 [.int .i64 k, .str s, Le] h Q R := by
  have hq' : ∀ h' a b c d, Rep (mV k s es).1 [a, b, c, d] → h.next ≤ h'.next → (∀ l, l < h.next → hget h'.mem l = hget h.mem l) → Q (.tup [.agg [a, b, c, d], .v (.bool (mV k s es).2)]) h' := by
    intro h' a b c d hr hn hf
    obtain ⟨kk, nn, bb, L, e, h1, h2, h3⟩ := Zrz hr
    simp only [List.cons.injEq, and_true] at e
    obtain ⟨rfl, rfl, rfl, rfl⟩ := e
    exact hq h' _ _ _ _ hr h1 h2 h3 hn hf
  clear hq
  by_cases e1 : k = .ofNat 1
  · have em : mV k s es = (Yw 1 s es, true) := if_pos e1
    rw [em] at hq'
    subst e1
    exact vc14_1 h20 h19 h25 h21 h18 h38 h39 h28 h6 h37 h27 h14 hr hs he hel hq'
  by_cases e2 : k = .ofNat 2
  · have em : mV k s es = (Yw 2 s es, true) := (if_neg e1).trans (if_pos e2)
    rw [em] at hq'
    subst e2
    exact vc14_2 h20 h19 h25 h21 h18 h38 h39 h28 h6 h37 h27 h14 hr hs he hel hq'
  by_cases e4 : k = .ofNat 4
  · have em : mV k s es = (Yw 4 s es, true) := (if_neg e1).trans ((if_neg e2).trans (if_pos e4))
    rw [em] at hq'
    subst e4
    exact vc14_4 h20 h19 h25 h21 h18 h38 h39 h28 h6 h37 h27 h14 hr hs he hel hq'
  by_cases e5 : k = .ofNat 5
  · have em : mV k s es = (Yw 5 s es, true) := (if_neg e1).trans ((if_neg e2).trans ((if_neg e4).trans (if_pos e5)))
    rw [em] at hq'
    subst e5
    exact vc14_5 h20 h19 h25 h21 h18 h38 h39 h28 h6 h37 h27 h14 hr hs he hel hq'
  by_cases e8 : k = .ofNat 8
  · have em : mV k s es = (Yw 8 s es, true) := (if_neg e1).trans ((if_neg e2).trans ((if_neg e4).trans ((if_neg e5).trans (if_pos e8))))
    rw [em] at hq'
    subst e8
    exact vc14_8 h20 h19 h25 h21 h18 h38 h39 h28 h6 h37 h27 h14 hr hs he hel hq'
  by_cases e11 : k = .ofNat 11
  · have em : mV k s es = (Yw 11 s es, true) := (if_neg e1).trans ((if_neg e2).trans ((if_neg e4).trans ((if_neg e5).trans ((if_neg e8).trans (if_pos e11)))))
    rw [em] at hq'
    subst e11
    exact Z7h h20 h19 h25 h21 h18 h38 h39 h28 h6 h37 h27 h14 hr hs he hel hq'
  by_cases e13 : k = .ofNat 13
  · have em : mV k s es = (Yw 13 s es, true) := (if_neg e1).trans ((if_neg e2).trans ((if_neg e4).trans ((if_neg e5).trans ((if_neg e8).trans ((if_neg e11).trans (if_pos e13))))))
    rw [em] at hq'
    subst e13
    exact Z7g h20 h19 h25 h21 h18 h38 h39 h28 h6 h37 h27 h14 hr hs he hel hq'
  by_cases e15 : k = .ofNat 15
  · have em : mV k s es = (Yw 15 s es, true) := (if_neg e1).trans ((if_neg e2).trans ((if_neg e4).trans ((if_neg e5).trans ((if_neg e8).trans ((if_neg e11).trans ((if_neg e13).trans (if_pos e15)))))))
    rw [em] at hq'
    subst e15
    exact Z7f h20 h19 h25 h21 h18 h38 h39 h28 h6 h37 h27 h14 hr hs he hel hq'
  by_cases e20 : k = .ofNat 20
  · have em : mV k s es = (Yw 20 s es, true) := (if_neg e1).trans ((if_neg e2).trans ((if_neg e4).trans ((if_neg e5).trans ((if_neg e8).trans ((if_neg e11).trans ((if_neg e13).trans ((if_neg e15).trans (if_pos e20))))))))
    rw [em] at hq'
    subst e20
    exact Z7e h20 h19 h25 h21 h18 h38 h39 h28 h6 h37 h27 h14 hr hs he hel hq'
  by_cases e24 : k = .ofNat 24
  · have em : mV k s es = (Yw 24 s es, true) := (if_neg e1).trans ((if_neg e2).trans ((if_neg e4).trans ((if_neg e5).trans ((if_neg e8).trans ((if_neg e11).trans ((if_neg e13).trans ((if_neg e15).trans ((if_neg e20).trans (if_pos e24)))))))))
    rw [em] at hq'
    subst e24
    exact Z7d h20 h19 h25 h21 h18 h38 h39 h28 h6 h37 h27 h14 hr hs he hel hq'
  have em : mV k s es = (Zdm, false) := (if_neg e1).trans ((if_neg e2).trans ((if_neg e4).trans ((if_neg e5).trans ((if_neg e8).trans ((if_neg e11).trans ((if_neg e13).trans ((if_neg e15).trans ((if_neg e20).trans (if_neg e24)))))))))
  rw [em] at hq'
  have k1 : Zb7 k (.ofNat 1) = false := by rw [Wf]; exact decide_eq_false e1
  have k2 : Zb7 k (.ofNat 2) = false := by rw [Wf]; exact decide_eq_false e2
  have k4 : Zb7 k (.ofNat 4) = false := by rw [Wf]; exact decide_eq_false e4
  have k5 : Zb7 k (.ofNat 5) = false := by rw [Wf]; exact decide_eq_false e5
  have k8 : Zb7 k (.ofNat 8) = false := by rw [Wf]; exact decide_eq_false e8
  have k11 : Zb7 k (.ofNat 11) = false := by rw [Wf]; exact decide_eq_false e11
  have k13 : Zb7 k (.ofNat 13) = false := by rw [Wf]; exact decide_eq_false e13
  have k15 : Zb7 k (.ofNat 15) = false := by rw [Wf]; exact decide_eq_false e15
  have k20 : Zb7 k (.ofNat 20) = false := by rw [Wf]; exact decide_eq_false e20
  have k24 : Zb7 k (.ofNat 24) = false := by rw [Wf]; exact decide_eq_false e24
  exact Z7c h20 h19 h25 h21 h18 h38 h39 h28 h6 h37 h27 h14 hr hs he hel (by simp only [Z0i, kK, ixK, k1, k2, k4, k5, k8, k11, k13, k15, k20, k24, cond_false]) fun h' => hq' h' _ _ _ _ ZZ
theorem vc15_a (h22 : T 22 = Zhz) (h26 : T 26 = Zhv) (h23 : T 23 = Zhy) (h24 : T 24 = Zhx) (h15 : T 15 = Zvx) {s : List Nat} {es : List V} {Le : D} (hs : s.length ≤ 400) (hb : ∀ x ∈ s, x < 256) (he : XK Rep 4 Le es) (hel : es.length ≤ 1000) {k : Int} (hq : ∀ h' kk nn bb L, Rep (mV k s es).1 [.int .i64 (.ofNat kk), .int .u64 (.ofNat nn), .str bb, L] → L.cells = [L] → L.one = true → L.same L = true → h.next ≤ h'.next → (∀ l, l < h.next → hget h'.mem l = hget h.mem l) → Q (.tup [.agg [.int .i64 (.ofNat kk), .int .u64 (.ofNat nn), .str bb, L], .v (.bool (mV k s es).2)]) h') : VC E T 15 [.int .i64 k, .str s, Le] h Q R := by
  have hq' : ∀ h' a b c d, Rep (mV k s es).1 [a, b, c, d] → h.next ≤ h'.next → (∀ l, l < h.next → hget h'.mem l = hget h.mem l) → Q (.tup [.agg [a, b, c, d], .v (.bool (mV k s es).2)]) h' := by
    intro h' a b c d hr hn hf
    obtain ⟨kk, nn, bb, L, e, h1, h2, h3⟩ := Zrz hr
    simp only [List.cons.injEq, and_true] at e
    obtain ⟨rfl, rfl, rfl, rfl⟩ := e
    exact hq h' _ _ _ _ hr h1 h2 h3 hn hf
  clear hq
  by_cases e1 : k = .ofNat 1
  · have em : mV k s es = (Yw 1 s es, true) := if_pos e1
    rw [em] at hq'
    subst e1
    exact vc15_1 h22 h26 h23 h24 h15 hs hb he hel hq'
  by_cases e2 : k = .ofNat 2
  · have em : mV k s es = (Yw 2 s es, true) := (if_neg e1).trans (if_pos e2)
    rw [em] at hq'
    subst e2
    exact vc15_2 h22 h26 h23 h24 h15 hs hb he hel hq'
  by_cases e4 : k = .ofNat 4
  · have em : mV k s es = (Yw 4 s es, true) := (if_neg e1).trans ((if_neg e2).trans (if_pos e4))
    rw [em] at hq'
    subst e4
    exact vc15_4 h22 h26 h23 h24 h15 hs hb he hel hq'
  by_cases e5 : k = .ofNat 5
  · have em : mV k s es = (Yw 5 s es, true) := (if_neg e1).trans ((if_neg e2).trans ((if_neg e4).trans (if_pos e5)))
    rw [em] at hq'
    subst e5
    exact vc15_5 h22 h26 h23 h24 h15 hs hb he hel hq'
  by_cases e8 : k = .ofNat 8
  · have em : mV k s es = (Yw 8 s es, true) := (if_neg e1).trans ((if_neg e2).trans ((if_neg e4).trans ((if_neg e5).trans (if_pos e8))))
    rw [em] at hq'
    subst e8
    exact vc15_8 h22 h26 h23 h24 h15 hs hb he hel hq'
  by_cases e11 : k = .ofNat 11
  · have em : mV k s es = (Yw 11 s es, true) := (if_neg e1).trans ((if_neg e2).trans ((if_neg e4).trans ((if_neg e5).trans ((if_neg e8).trans (if_pos e11)))))
    rw [em] at hq'
    subst e11
    exact Z7b h22 h26 h23 h24 h15 hs hb he hel hq'
  by_cases e13 : k = .ofNat 13
  · have em : mV k s es = (Yw 13 s es, true) := (if_neg e1).trans ((if_neg e2).trans ((if_neg e4).trans ((if_neg e5).trans ((if_neg e8).trans ((if_neg e11).trans (if_pos e13))))))
    rw [em] at hq'
    subst e13
    exact Z7a h22 h26 h23 h24 h15 hs hb he hel hq'
  by_cases e15 : k = .ofNat 15
  · have em : mV k s es = (Yw 15 s es, true) := (if_neg e1).trans ((if_neg e2).trans ((if_neg e4).trans ((if_neg e5).trans ((if_neg e8).trans ((if_neg e11).trans ((if_neg e13).trans (if_pos e15)))))))
    rw [em] at hq'
    subst e15
    exact Z69 h22 h26 h23 h24 h15 hs hb he hel hq'
  by_cases e20 : k = .ofNat 20
  · have em : mV k s es = (Yw 20 s es, true) := (if_neg e1).trans ((if_neg e2).trans ((if_neg e4).trans ((if_neg e5).trans ((if_neg e8).trans ((if_neg e11).trans ((if_neg e13).trans ((if_neg e15).trans (if_pos e20))))))))
    rw [em] at hq'
    subst e20
    exact Z68 h22 h26 h23 h24 h15 hs hb he hel hq'
  by_cases e24 : k = .ofNat 24
  · have em : mV k s es = (Yw 24 s es, true) := (if_neg e1).trans ((if_neg e2).trans ((if_neg e4).trans ((if_neg e5).trans ((if_neg e8).trans ((if_neg e11).trans ((if_neg e13).trans ((if_neg e15).trans ((if_neg e20).trans (if_pos e24)))))))))
    rw [em] at hq'
    subst e24
    exact Z67 h22 h26 h23 h24 h15 hs hb he hel hq'
  have em : mV k s es = (Zdm, false) := (if_neg e1).trans ((if_neg e2).trans ((if_neg e4).trans ((if_neg e5).trans ((if_neg e8).trans ((if_neg e11).trans ((if_neg e13).trans ((if_neg e15).trans ((if_neg e20).trans (if_neg e24)))))))))
  rw [em] at hq'
  have k1 : Zb7 k (.ofNat 1) = false := by rw [Wf]; exact decide_eq_false e1
  have k2 : Zb7 k (.ofNat 2) = false := by rw [Wf]; exact decide_eq_false e2
  have k4 : Zb7 k (.ofNat 4) = false := by rw [Wf]; exact decide_eq_false e4
  have k5 : Zb7 k (.ofNat 5) = false := by rw [Wf]; exact decide_eq_false e5
  have k8 : Zb7 k (.ofNat 8) = false := by rw [Wf]; exact decide_eq_false e8
  have k11 : Zb7 k (.ofNat 11) = false := by rw [Wf]; exact decide_eq_false e11
  have k13 : Zb7 k (.ofNat 13) = false := by rw [Wf]; exact decide_eq_false e13
  have k15 : Zb7 k (.ofNat 15) = false := by rw [Wf]; exact decide_eq_false e15
  have k20 : Zb7 k (.ofNat 20) = false := by rw [Wf]; exact decide_eq_false e20
  have k24 : Zb7 k (.ofNat 24) = false := by rw [Wf]; exact decide_eq_false e24
  exact Z66 h22 h26 h23 h24 h15 k1 k2 k4 k5 k8 k11 k13 k15 k20 k24 hs hb he hel fun h' => hq' h' _ _ _ _ ZZ
end
section
variable {h : H} {Q : D → H → Prop} {R : Uk}
abbrev IE (h : H) (k : Int) (s4 : List Nat) (dx dh : D) (ex6 : List (Nat × List Nat)) (E6 : List V) (m : Nat) (t1 : Tr D) (h1 : H) : Prop :=
  h.next + 3 ≤ h1.next ∧ (∀ l, l < h.next → hget h1.mem l = hget h.mem l) ∧ Gt 1 t1 = .ptr h.next 0 ∧ Gt 2 t1 = .ptr (h.next + 1) 0 ∧ Gt 3 t1 = .ptr (h.next + 2) 0 ∧ hget h1.mem h.next = some (.cells 27 [.int .i64 k, .str s4, dx]) ∧ hget h1.mem (h.next + 1) = some (.cells 31 [.int .i64 (.ofNat 0), .int .u64 (.ofNat 0), .str [], .v (.slice none 0 0)]) ∧ hget h1.mem (h.next + 2) = some (.cells 33 [.int .i64 (.ofNat 0), .int .u64 (.ofNat 0), .str [], .v (.slice none 0 0)]) ∧ Gt 28 t1 = dh ∧ Gt 29 t1 = .int .i64 (.ofNat ex6.length) ∧ ∃ i, Gt 30 t1 = .int .i64 (.ofNat i) ∧ i + m = ex6.length ∧ ∃ rest, ex6.drop i = rest ∧ ∃ ws, XK Rep 4 (Gt 6 t1) ws ∧ XK Rep 4 (Gt 7 t1) ws ∧ Tp h1 31 (Gt 6 t1) ws.length ∧ Tp h1 33 (Gt 7 t1) ws.length ∧ Zzh (Gt 6 t1) h1.next ∧ Zzh (Gt 7 t1) h1.next ∧ UP (Gt 6 t1) (.v (.slice none 0 0)) (h.next + 3) ∧ UP (Gt 7 t1) (.v (.slice none 0 0)) (h.next + 3) ∧ ws ++ rest.map Zy0 = E6
theorem vc4 (h4 : T 4 = q4) (h6 : T 6 = q6) (h12 : T 12 = q12) (h13 : T 13 = q13) (h14 : T 14 = Zxe) (h15 : T 15 = Zvx) (h18 : T 18 = Zjv) (h19 : T 19 = Zh1) (h20 : T 20 = Zh0) (h21 : T 21 = Zju) (h22 : T 22 = Zhz) (h23 : T 23 = Zhy) (h24 : T 24 = Zhx) (h25 : T 25 = Zhw) (h26 : T 26 = Zhv) (h27 : T 27 = Zvw) (h28 : T 28 = Zmo) (h37 : T 37 = Zt2) (h38 : T 38 = Zlr) (h39 : T 39 = Zlq) (hr' : T 60 = Wv Y4) {k : Int} {s : List Nat} {dx : D} {exts : List (Nat × List Nat)} (hb : ∀ x ∈ s, x < 256) (hx : Zrf Z2w 2 dx exts) (hxn : ∀ x ∈ exts, x.1 < 65536) (hq : ∀ h' v ok kk nn bb L k2 n2 b2 L2, Rep v [.int .i64 (.ofNat kk), .int .u64 (.ofNat nn), .str bb, L] → Rep v [.int .i64 (.ofNat k2), .int .u64 (.ofNat n2), .str b2, L2] → (L.cells = [L] ∧ L.one = true ∧ L.same L = true) → (L2.cells = [L2] ∧ L2.one = true ∧ L2.same L2 = true) → h.next ≤ h'.next → (∀ l, l < h.next → hget h'.mem l = hget h.mem l) → Q (.tup [.agg [.int .i64 (.ofNat kk), .int .u64 (.ofNat nn), .str bb, L], .agg [.int .i64 (.ofNat k2), .int .u64 (.ofNat n2), .str b2, L2], .v (.bool ok), .v (.bool ok)]) h') : VC E T 4 [.agg [.int .i64 k, .str s, dx]] h Q R := by
  generalize hs4 : s.take (min s.length 400) = s4
  have hsl4 : s4.length ≤ 400 := by rw [← hs4, List.length_take]; omega
  have hb4 : ∀ x ∈ s4, x < 256 := by rw [← hs4]; exact fun x hx => hb x (List.mem_of_mem_take hx)
  clear hb
  have hxl : ∀ m, Zgk dx m = .ok (.int .i64 (.ofNat exts.length)) m := fun m => hx.len m
  have hxc := hx.cel
  have hxo := hx.on
  obtain ⟨dh, hhd, hh⟩ := hx.head (m := min exts.length 6) (Nat.min_le_left _ _)
  generalize h6 : exts.take (min exts.length 6) = ex6 at hh
  have h6l : ex6.length ≤ 6 := by rw [← h6, List.length_take]; omega
  have h6n : ∀ x ∈ ex6, x.1 < 65536 := by rw [← h6]; exact fun x hx => hxn x (List.mem_of_mem_take hx)
  clear hxn hx h6
  have hhl : ∀ m, Zgk dh m = .ok (.int .i64 (.ofNat ex6.length)) m := fun m => hh.len m
  have hho := hh.on
  have hhc := hh.cel
  generalize hE6 : ex6.map Zy0 = E6
  have hEl : E6.length = ex6.length := by rw [← hE6, List.length_map]
  refine YK h4 ?_
  unfold YI
  repeat' (with_reducible (first | refine ZA ?_ | refine ZB ?_ | refine ZQ ?_ | refine ZP ?_ | refine ZD ?_ | refine Zt ?_ | refine ZC ?_ | refine ZR ?_ | refine ZO ?_ | refine ZG ?_ | refine ZS ?_ | simp (maxSteps := 2000000) (disch := first | assumption | (show WN _ _; first | assumption | ((iterate 6 (try refine X5 (by assumption) (by omega) ?_)); first | assumption | exact X4 (by assumption) (by omega) | exact X3 (by assumption) (by assumption) | exact Yv | exact Vv (by assumption) (by assumption) (by assumption) (by omega) (by assumption))) | exact Yt (by omega) | omega | (simp only [Zm, Zl, List.length_cons, List.length_nil, List.length_append, List.length_take, List.length_drop]; omega) | fail) only [go_sem, -Int.reduceOfNat, *] | ((first | refine Yh ?_ ?_ | refine ZV ?_ ?_ | refine Yg ?_ ?_ | refine ZT ?_ ?_ | refine ZU ?_ ?_ | refine ZH ?_ ?_) <;> intro _) | (refine Zah (IE h k s4 dx dh ex6 E6) (n := ex6.length) ?_ ?_) | (refine ⟨[], XK.nil, XK.nil, ?_⟩) | exact Tp.nil | exact Zns | exact UP.refl | exact hE6 | assumption | exact trivial | (show _ < _; omega) | (show _ ≤ _; omega) | (show ¬ (_ : Nat) = _; omega) | (show (_ : Nat) ≠ _; omega) | (show (_ : Nat) = _; omega) | (intro _; intros) | (refine ⟨_, by assumption, ?_⟩) | refine And.intro ?_ ?_))
  all_goals
    rintro m t1 h1 ⟨gn, gf, g1, g2, g3, c0, c1, c2, g28, g29, i, gi, gm, rest, gr, ws, gS, pS, gT, pT, gB, pB, gI, pI, gx⟩
    have gone := Y3 gS
    have gcel := ZF gS
    have gsm := Zq gS
    have pone := Y3 pS
    have pcel := ZF pS
    have psm := Zq pS
    have gwl : ws.length ≤ ex6.length := by rw [← hEl, ← gx, List.length_append]; omega
    have sp := Z4b gT pT (by decide)
    have sp' := sepS sp
    generalize hd6 : Gt 6 t1 = d6 at gS gT gB gI gone gcel gsm sp sp'
    generalize hd7 : Gt 7 t1 = d7 at pS pT pB pI pone pcel psm sp sp'
    cases rest with
    | nil =>
      have := Zd3 gr
      obtain rfl : m = 0 := by omega
      obtain rfl : i = ex6.length := by omega
      simp only [List.map_nil, List.append_nil] at gx
      subst gx
      clear gr this hE6 hEl hs4
      repeat' (with_reducible (first | refine ZA ?_ | refine ZB ?_ | refine ZQ ?_ | refine ZP ?_ | refine ZD ?_ | refine Zt ?_ | refine ZC ?_ | refine ZR ?_ | refine ZO ?_ | refine ZG ?_ | refine ZS ?_ | refine vc14_a h20 h19 h25 h21 h18 h38 h39 h28 h6 h37 h27 h14 hr' hsl4 gS (by omega) ?_ | refine vc15_a h22 h26 h23 h24 h15 hsl4 hb4 pS (by omega) ?_ | simp (maxSteps := 2000000) (disch := first | assumption | (show WN _ _; first | assumption | ((iterate 6 (try refine X5 (by assumption) (by omega) ?_)); first | assumption | exact X4 (by assumption) (by omega) | exact X3 (by assumption) (by assumption) | exact Yv | exact Vv (by assumption) (by assumption) (by assumption) (by omega) (by assumption))) | exact Yt (by omega) | omega | (simp only [Zm, Zl, List.length_cons, List.length_nil, List.length_append, List.length_take, List.length_drop]; omega) | fail) only [go_sem, -Int.reduceOfNat, *, Z2p, Zyd] | ((first | refine Yh ?_ ?_ | refine ZV ?_ ?_ | refine Yg ?_ ?_ | refine ZT ?_ ?_ | refine ZU ?_ ?_ | refine ZH ?_ ?_) <;> intro _) | (show Q _ _; refine hq _ _ _ _ _ _ _ _ _ _ _ (by assumption) (by assumption) ⟨by assumption, by assumption, by assumption⟩ ⟨by assumption, by assumption, by assumption⟩ ?_ ?_) | assumption | exact trivial | (show _ < _; omega) | (show _ ≤ _; omega) | (show ¬ (_ : Nat) = _; omega) | (show (_ : Nat) ≠ _; omega) | (show (_ : Nat) = _; omega) | (intro _; intros) | (refine ⟨_, by assumption, ?_⟩) | refine And.intro ?_ ?_))
    | cons x r =>
      have hi := Zkw gr
      obtain ⟨hg, hr1⟩ := Zd4 gr
      obtain ⟨rs, hix⟩ := hh.ext hg
      have hx1 := h6n _ (List.mem_of_getElem? hg)
      obtain ⟨n, sd⟩ := x
      have em40 : sd.take (min sd.length 40) = m40 sd := rfl
      have hn64 : n < 18446744073709551616 := by
        have : n < 65536 := hx1
        omega
      have gx' : ws ++ [Zy0 (n, sd)] ++ r.map Zy0 = E6 := by rw [← gx]; simp
      simp only at hix
      clear gr hg gx hE6 hq hs4 h6n hx1 hh
      repeat' (with_reducible (first | refine ZA ?_ | refine ZB ?_ | refine ZQ ?_ | refine ZP ?_ | refine ZD ?_ | refine Zt ?_ | refine ZC ?_ | refine ZR ?_ | refine ZO ?_ | refine ZG ?_ | refine ZS ?_ | refine vc12_a h20 h19 h25 h21 h18 h12 ?_ | refine vc13_a h22 h26 h23 h24 h13 ?_ | simp (maxSteps := 2000000) (disch := first | assumption | (show WN _ _; first | assumption | ((iterate 6 (try refine X5 (by assumption) (by omega) ?_)); first | assumption | exact X4 (by assumption) (by omega) | exact X3 (by assumption) (by assumption) | exact Yv | exact Vv (by assumption) (by assumption) (by assumption) (by omega) (by assumption))) | exact Yt (by omega) | omega | (simp only [Zm, Zl, List.length_cons, List.length_nil, List.length_append, List.length_take, List.length_drop]; omega) | fail) only [go_sem, -Int.reduceOfNat, *, Wm] | ((first | refine Yh ?_ ?_ | refine ZV ?_ ?_ | refine Yg ?_ ?_ | refine ZT ?_ ?_ | refine ZU ?_ ?_ | refine ZH ?_ ?_) <;> intro _) | (refine Zct (xs := ws) (ys := [Zy0 (n, sd)]) gS (Tp.mono gT ?_ (fun _ _ _ => ?_)) (Zp ?_ ?_) rfl (by omega) (by omega) (by omega) ?_) | (refine Zct (xs := ws) (ys := [Zy0 (n, sd)]) pS (Tp.mono pT ?_ (fun _ _ _ => ?_)) (Zp ?_ ?_) rfl (by omega) (by omega) (by omega) ?_) | (refine ⟨m - 1, by omega, ?_⟩) | (refine ⟨_, by assumption, by assumption, ?_⟩) | exact gx' | exact Z8o (by assumption) | (refine Zk0 (by assumption) ?_) | (refine UP.trans (by assumption) (by first | omega | (simp only [Zm, Zl]; omega)) ?_) | (refine Tp.mono (by assumption) ?_ (fun _ _ _ => ?_)) | exact Zq (by assumption) | (refine Yl ?_ (by simp) (by simp)) | (refine Zp ?_ ?_) | exact Y1 | exact ZZ | (refine ZW (by first | omega | simp) ?_) | assumption | exact trivial | (show _ < _; omega) | (show _ ≤ _; omega) | (show ¬ (_ : Nat) = _; omega) | (show (_ : Nat) ≠ _; omega) | (show (_ : Nat) = _; omega) | (intro _; intros) | (refine ⟨_, by assumption, ?_⟩) | refine And.intro ?_ ?_))
end
section
variable {h : H} {Q : D → H → Prop} {R : Uk}
def q3 : ZE := Y5 YI (fun t h => .ok (Gt 2 t) h)
 (Z0 (Z1<|fo (Yf (kD (.v (.bool false)))) (St 2)<|Z2)
 (Z0 (Z1<|fo (Yf (kD (.v (.slice none 0 0)))) (St 3)<|Z2)
 (Z0 (Z1<|fo (Yf (kD (.v (.slice none 0 0)))) (St 4)<|Z2)
 (Z0 (Z0 (Z1<|mM 0 14<|mM 0 15<|fo (u1 V6 (Gt 15)) (St 16)<|fo (Zqv .min #[3,3] 3 #[false,true] [(Gt 16),(kI 5)]) (St 17)<|fo (uo (Zav 3) (Gt 14) none (some (Gt 17))) (St 18)<|fo (u1 V6 (Gt 18)) (St 19)<|fo (Yf (kI 0)) (St 20)<|Z2)
 (Zc 0 (ZI (Z0 (Z1<|fo (Zd Vc .lss 3 (.tmp 20) (.tmp 19) (Gt 20) (Gt 19)) (St 21)<|Z2)
 (Z0 (Z7 (Gt 21) Z8 (ZL 0))
 (Z0 (Zc 1 (Z0 (Z1<|fo (u2 (Vw 3) (Gt 18) (Gt 20)) (St 22)<|fo (Zi 3 (Gt 22)) (St 23)<|fo (Za 27 [(.int .i64 (.ofNat 0)),(.str []),(.v (.slice none 0 0))]) (St 6)<|fo (Ze 3 (Gt 6) (Gt 23)) p0<|Z2)
 (Z0 (Z1<|fo (Zi 3 (Gt 6)) (St 25)<|mK 4 [(Gt 25)] 26<|mM 26 24<|mE 0 24 27<|mE 1 24 28<|mE 2 24 29<|mE 3 24 30<|fo (Za 31 [(.int .i64 (.ofNat 0)),(.int .u64 (.ofNat 0)),(.str []),(.v (.slice none 0 0))]) (St 7)<|fo (Za 33 [(.int .i64 (.ofNat 0)),(.int .u64 (.ofNat 0)),(.str []),(.v (.slice none 0 0))]) (St 8)<|fo (Ze 4 (Gt 7) (Gt 27)) p0<|fo (Ze 4 (Gt 8) (Gt 28)) p0<|mM 29 9<|mM 30 10<|Z2)
 (Z0 (Z0 (Z1<|mM 9 31<|mM 10 32<|fo (Zd U6 .neq 4 (.tmp 31) (.tmp 32) (Gt 31) (Gt 32)) (St 33)<|mM 33 34<|Zr (Gt 34) false (Zi 4 (Gt 7)) (St 35)<|Zr (Gt 34) false (Zi 4 (Gt 8)) (St 36)<|Zr (Gt 34) false (Z9 5 [(Gt 35),(Gt 36)]) (St 37)<|Zr (Gt 34) false (u1 (Zo9 .not) (Gt 37)) (St 38)<|fo (Zu (Gt 34) (kD (.v (.bool true))) (Gt 38)) (St 39)<|Z2)
 (Z7 (Gt 39) (Z0 (Z1<|fo (Yf (kD (.v (.bool false)))) (St 2)<|Z2)
 Zb) Z8))
 (Zv <| Zf (Yf (Gt 3)) (St 40) <| Xv 1 [0] 4 (Gt 7) (Zi 4 (Gt 7)) (St 41) <| Zf (Zn 31 1 [(.int .i64 (.ofNat 0)), (.int .u64 (.ofNat 0)), (.str []), (.v (.slice none 0 0))] [(0, 4, (Gt 41))]) (St 42) <| Yu 3 [] (u2 (YE 31 4 56) (Gt 40) (Gt 42)) (St 43) <| Zf (Yf (Gt 4)) (St 44) <| Xv 5 [0, 1, 2, 3, 4] 4 (Gt 8) (Zi 4 (Gt 8)) (St 45) <| Zf (Zn 33 1 [(.int .i64 (.ofNat 0)), (.int .u64 (.ofNat 0)), (.str []), (.v (.slice none 0 0))] [(0, 4, (Gt 45))]) (St 46) <| Yu 7 [] (u2 (YE 33 4 56) (Gt 44) (Gt 46)) (St 47) <| Zf (Yf (Gt 43)) (St 3) <| Zf (Yf (Gt 47)) (St 4) <| Zw)))))
 (Z1<|fo (Zd Y2 .add 3 (.tmp 20) (.const (.int .i64 (.ofNat 1))) (Gt 20) (kI 1)) (St 48)<|mM 48 20<|Z2)))))))
 (Z0 (Z0 (Z1<|fo (Zn 3 10 [(.int .i64 (.ofNat 0)),(.int .i64 (.ofNat 0)),(.int .i64 (.ofNat 0)),(.int .i64 (.ofNat 0)),(.int .i64 (.ofNat 0)),(.int .i64 (.ofNat 0)),(.int .i64 (.ofNat 0)),(.int .i64 (.ofNat 0)),(.int .i64 (.ofNat 0)),(.int .i64 (.ofNat 0))] [(0,1,(kI 1)),(1,1,(kI 2)),(2,1,(kI 4)),(3,1,(kI 5)),(4,1,(kI 8)),(5,1,(kI 11)),(6,1,(kI 13)),(7,1,(kI 15)),(8,1,(kI 20)),(9,1,(kI 24))]) (St 49)<|fo (u1 V6 (Gt 49)) (St 50)<|fo (Yf (kI 0)) (St 51)<|Z2)
 (Zc 2 (ZI (Z0 (Z1<|fo (Zd Vc .lss 3 (.tmp 51) (.tmp 50) (Gt 51) (Gt 50)) (St 52)<|Z2)
 (Z0 (Z7 (Gt 52) Z8 (ZL 2))
 (Z0 (Zc 3 (Z0 (Z1<|mM 51 53<|fo (u2 (Vw 1) (Gt 49) (Gt 51)) (St 54)<|mL 54 55<|mM 53 11<|mM 55 12<|Z2)
 (Z0 (Z1<|mK 6 [] 56<|mM 56 13<|Z2)
 (Z0 (Z1<|mM 13 57<|fo (u1 V6 (Gt 57)) (St 58)<|fo (mR 3 58 10) (St 59)<|mM 59 60<|Zr (Gt 60) false (Yf (Gt 13)) (St 61)<|Zr (Gt 60) false (Yf (Gt 11)) (St 62)<|Zr (Gt 60) false (u2 (Vw 1) (Gt 61) (Gt 62)) (St 63)<|Zr (Gt 60) false (ZJ (Gt 63)) (St 64)<|Zr (Gt 60) false (Yf (Gt 12)) (St 65)<|Zr (Gt 60) false (Zd U6 .neq 3 (.tmp 64) (.tmp 65) (Gt 64) (Gt 65)) (St 66)<|fo (Zu (Gt 60) (kD (.v (.bool true))) (Gt 66)) (St 67)<|Z2)
 (Z7 (Gt 67) (Z0 (Z1<|fo (Yf (kD (.v (.bool false)))) (St 2)<|Z2)
 Zb) Z8)))))
 (Z1<|fo (Zd Y2 .add 3 (.tmp 51) (.const (.int .i64 (.ofNat 1))) (Gt 51) (kI 1)) (St 68)<|mM 68 51<|Z2)))))))
 (Z0 (Z1<|mK 7 [] 69<|mM 69 70<|Zr (Gt 70) true (Z9 8 []) (St 71)<|Zr (Gt 70) true (Z9 9 []) (St 72)<|Zr (Gt 70) true (Zd ZX .eql 9 (.tmp 71) (.tmp 72) (Gt 71) (Gt 72)) (St 73)<|fo (Zu (Gt 70) (Gt 73) (kD (.v (.bool false)))) (St 74)<|mM 74 75<|Zr (Gt 75) true (Yf (Gt 3)) (St 76)<|Zr (Gt 75) true (Z9 10 [(Gt 76)]) (St 77)<|Zr (Gt 75) true (Yf (Gt 4)) (St 78)<|Zr (Gt 75) true (Z9 11 [(Gt 78)]) (St 79)<|Zr (Gt 75) true (Z9 5 [(Gt 77),(Gt 79)]) (St 80)<|fo (Zu (Gt 75) (Gt 80) (kD (.v (.bool false)))) (St 81)<|mM 81 2<|Z2)
 Zb))))))
abbrev Msg := Int × List Nat × List (Nat × List Nat)
def Zzc (x : Msg) (c : List D) : Prop := ∃ dx, c = [.int .i64 x.1, .str x.2.1, dx] ∧ Zrf Z2w 2 dx x.2.2
theorem Zrf.msg {d : D} {xs : List Msg} (hr : Zrf Zzc 3 d xs) {i : Nat} {x : Msg} (hx : xs[i]? = some x) : ∃ dx rest, Zrf Z2w 2 dx x.2.2 ∧ ∀ (kk : IntKind) (h : H), Zgl 3 d (.int kk (.ofNat i)) h = .ok (.ep (.int .i64 x.1 :: .str x.2.1 :: dx :: rest)) h := by
  obtain ⟨cs, hw, hl, hd⟩ := hr
  have hi : i < xs.length := (List.getElem?_eq_some_iff.1 hx).1
  have hc : cs[i]? = some (cs[i]'(by rw [hw.1]; exact hi)) := List.getElem?_eq_getElem (by rw [hw.1]; exact hi)
  obtain ⟨dx, h1, h2⟩ := hw.2 i x _ hx hc
  rcases hd with ⟨rfl, _⟩ | ⟨id, rfl⟩
  · simp at hx
  have hf := Zb8 hl (i := i) (by rw [hw.1]; exact hi)
  rw [h1] at hf
  exact ⟨_, _, h2, fun kk h => Ze8 (by rw [hw.1]; exact hi) hf⟩
theorem oExt_3x {a b c d : D} {r : List D} {h : H} : Zye 3 (.tup (a :: b :: c :: d :: r)) h = .ok d h := rfl
theorem Zsx {f : Nat} {d : D} (hf : T f = Wv (Yy [] d)) (hq : Q d h) : VC E T f [] h Q R := Zxj hf hq
theorem Zzk {i : Nat} {inc : List Nat} {h0 : H} {p : D → Tr D → Tr D} {kd : FD} {recs : List Rec} {t : Tr D} {Q : Uc} {e bytes m : Nat} {d : D} {xs : List V} {x : V} {a b c f : D} (hx : Rep x [a, b, c, f]) (hr : XK Rep 4 d xs) (ht : Tp h e d xs.length) (hs : xs.length + 1 ≤ 1000000) (hb : bytes ≤ 1000)
    (hq : ∀ id cs h', XK Rep 4 (.sl id (xs.length + 1) cs) (xs ++ [x]) → Tp h' e (.sl id (xs.length + 1) cs) (xs.length + 1) → h.next ≤ h'.next → Zzh (.sl id (xs.length + 1) cs) h'.next → (∀ l : Nat, l < h.next → WN d l → hget h'.mem l = hget h.mem l) → UP (.sl id (xs.length + 1) cs) d h.next → vL E T (.ok (.sl id (xs.length + 1) cs) h') i inc h0 p kd recs t Q R) : vL E T (Zdv e 4 bytes d (.sl m 1 [a, b, c, f]) h) i inc h0 p kd recs t Q R := Zct (ys := [x]) hr ht (Zp hx Y1) rfl (by omega) hs hb hq
abbrev IT (h : H) (dh : D) (n m : Nat) (ms : List Msg) (t1 : Tr D) (h1 : H) : Prop :=
  h.next ≤ h1.next ∧ (∀ l, l < h.next → hget h1.mem l = hget h.mem l) ∧ Gt 18 t1 = dh ∧ Gt 19 t1 = .int .i64 (.ofNat n) ∧ ∃ i, Gt 20 t1 = .int .i64 (.ofNat i) ∧ i + m = n ∧ ∃ rest, ms.drop i = rest ∧ ∃ ws, XK Rep 4 (Gt 3 t1) ws ∧ XK Rep 4 (Gt 4 t1) ws ∧ Tp h1 31 (Gt 3 t1) ws.length ∧ Tp h1 33 (Gt 4 t1) ws.length ∧ Zzh (Gt 3 t1) h1.next ∧ Zzh (Gt 4 t1) h1.next ∧ UP (Gt 3 t1) (.v (.slice none 0 0)) h.next ∧ UP (Gt 4 t1) (.v (.slice none 0 0)) h.next ∧ ws.length + m = n
abbrev IK (h : H) (d3 d4 : D) (m : Nat) (t1 : Tr D) (h1 : H) : Prop :=
  h.next ≤ h1.next ∧ (∀ l, l < h.next → hget h1.mem l = hget h.mem l) ∧ Gt 3 t1 = d3 ∧ Gt 4 t1 = d4 ∧ (∃ id, Gt 49 t1 = .sl id 10 [.int .i64 (.ofNat 1), .int .i64 (.ofNat 2), .int .i64 (.ofNat 4), .int .i64 (.ofNat 5), .int .i64 (.ofNat 8), .int .i64 (.ofNat 11), .int .i64 (.ofNat 13), .int .i64 (.ofNat 15), .int .i64 (.ofNat 20), .int .i64 (.ofNat 24)]) ∧ Gt 50 t1 = .int .i64 (.ofNat 10) ∧ ∃ i, Gt 51 t1 = .int .i64 (.ofNat i) ∧ i + m = 10
theorem vc3 (h3 : T 3 = q3) (h4 : T 4 = q4) (h5 : T 5 = q5) (h6 : T 6 = q6) (h10 : T 10 = q10) (h11 : T 11 = q11) (h12 : T 12 = q12) (h13 : T 13 = q13) (h14 : T 14 = Zxe) (h15 : T 15 = Zvx) (h18 : T 18 = Zjv) (h19 : T 19 = Zh1) (h20 : T 20 = Zh0) (h21 : T 21 = Zju) (h22 : T 22 = Zhz) (h23 : T 23 = Zhy) (h24 : T 24 = Zhx) (h25 : T 25 = Zhw) (h26 : T 26 = Zhv) (h27 : T 27 = Zvw) (h28 : T 28 = Zmo) (h37 : T 37 = Zt2) (h38 : T 38 = Zlr) (h39 : T 39 = Zlq) (hr' : T 60 = Wv Y4) {tx : List Nat} (w1 : T 7 = Wv (Yy [] (.v (.bool true)))) (w2 : T 8 = Wv (Yy [] (.str tx))) (w3 : T 9 = Wv (Yy [] (.str tx)))
    (hne : ∀ (b : Bool) (h : H), Zng E U6 .neq 4 (.tmp 31) (.tmp 32) (.v (.bool b)) (.v (.bool b)) h = .ok (.v (.bool false)) h)
    {dl : D} {ms : List Msg} (hl : Zrf Zzc 3 dl ms) (hb : ∀ m ∈ ms, ∀ x ∈ m.2.1, x < 256) (hx : ∀ m ∈ ms, ∀ e ∈ m.2.2, e.1 < 65536) (hq : ∀ h', h.next ≤ h'.next → (∀ l, l < h.next → hget h'.mem l = hget h.mem l) → Q (.v (.bool true)) h') : VC E T 3 [dl] h Q R := by
  have hll : ∀ m, Zgk dl m = .ok (.int .i64 (.ofNat ms.length)) m := fun m => hl.len m
  obtain ⟨dh, hhd, hh⟩ := hl.head (m := min ms.length 5) (Nat.min_le_left _ _)
  generalize h5' : ms.take (min ms.length 5) = ms5 at hh
  have h5l : ms5.length ≤ 5 := by rw [← h5', List.length_take]; omega
  have hb5 : ∀ m ∈ ms5, ∀ x ∈ m.2.1, x < 256 := by rw [← h5']; exact fun x hx => hb x (List.mem_of_mem_take hx)
  have hx5 : ∀ m ∈ ms5, ∀ e ∈ m.2.2, e.1 < 65536 := by rw [← h5']; exact fun x h => hx x (List.mem_of_mem_take h)
  clear hb hx hl h5'
  have hhl : ∀ m, Zgk dh m = .ok (.int .i64 (.ofNat ms5.length)) m := fun m => hh.len m
  refine YK h3 ?_
  unfold YI
  repeat' (with_reducible (first | refine ZA ?_ | refine ZB ?_ | refine ZQ ?_ | refine ZP ?_ | refine ZD ?_ | refine Zt ?_ | refine ZC ?_ | refine ZR ?_ | refine ZO ?_ | refine ZG ?_ | refine ZS ?_ | simp (maxSteps := 2000000) (disch := first | assumption | (show WN _ _; first | assumption | ((iterate 6 (try refine X5 (by assumption) (by omega) ?_)); first | assumption | exact X4 (by assumption) (by omega) | exact X3 (by assumption) (by assumption) | exact Yv | exact Vv (by assumption) (by assumption) (by assumption) (by omega) (by assumption))) | exact Yt (by omega) | omega | (simp only [Zm, Zl, List.length_cons, List.length_nil, List.length_append, List.length_take, List.length_drop]; omega) | fail) only [go_sem, -Int.reduceOfNat, *] | ((first | refine Yh ?_ ?_ | refine ZV ?_ ?_ | refine Yg ?_ ?_ | refine ZT ?_ ?_ | refine ZU ?_ ?_ | refine ZH ?_ ?_) <;> intro _) | (refine Zah (fun m => IT h dh ms5.length m ms5) (n := ms5.length) ?_ ?_) | (refine ⟨[], XK.nil, XK.nil, ?_⟩) | exact Tp.nil | exact Zns | exact UP.refl | assumption | exact trivial | (show _ < _; omega) | (show _ ≤ _; omega) | (show ¬ (_ : Nat) = _; omega) | (show (_ : Nat) ≠ _; omega) | (show (_ : Nat) = _; omega) | (intro _; intros) | (refine ⟨_, by assumption, ?_⟩) | refine And.intro ?_ ?_))
  all_goals
    rintro m t1 h1 ⟨gn, gf, g18, g19, i, gi, gm, rest, gr, ws, gS, pS, gT, pT, gB, pB, gI, pI, gw⟩
    have gone := Y3 gS
    have gcel := ZF gS
    have gsm := Zq gS
    have pone := Y3 pS
    have pcel := ZF pS
    have psm := Zq pS
    have gwl : ws.length ≤ 5 := by omega
    have sp := Z4b gT pT (by decide)
    have sp' := sepS sp
    generalize hd3 : Gt 3 t1 = d3 at gS gT gB gI gone gcel gsm sp sp'
    generalize hd4 : Gt 4 t1 = d4 at pS pT pB pI pone pcel psm sp sp'
    cases rest with
    | nil =>
      have := Zd3 gr
      obtain rfl : m = 0 := by omega
      obtain rfl : i = ms5.length := by omega
      clear gr this hb5 hx5 hh gT pT gB pB gI pI sp sp'
      repeat' (with_reducible (first | refine ZA ?_ | refine ZB ?_ | refine ZQ ?_ | refine ZP ?_ | refine ZD ?_ | refine Zt ?_ | refine ZC ?_ | refine ZR ?_ | refine ZO ?_ | refine ZG ?_ | refine ZS ?_ | simp (maxSteps := 2000000) (disch := first | assumption | (show WN _ _; first | assumption | ((iterate 6 (try refine X5 (by assumption) (by omega) ?_)); first | assumption | exact X4 (by assumption) (by omega) | exact X3 (by assumption) (by assumption) | exact Yv | exact Vv (by assumption) (by assumption) (by assumption) (by omega) (by assumption))) | exact Yt (by omega) | omega | (simp only [Zm, Zl, List.length_cons, List.length_nil, List.length_append, List.length_take, List.length_drop]; omega) | fail) only [go_sem, -Int.reduceOfNat, *, kK_D] | ((first | refine Yh ?_ ?_ | refine ZV ?_ ?_ | refine Yg ?_ ?_ | refine ZT ?_ ?_ | refine ZU ?_ ?_ | refine ZH ?_ ?_) <;> intro _) | (refine Zah (IK h d3 d4) (n := 10) ?_ ?_) | exact ⟨_, rfl⟩ | assumption | exact trivial | (show _ < _; omega) | (show _ ≤ _; omega) | (show ¬ (_ : Nat) = _; omega) | (show (_ : Nat) ≠ _; omega) | (show (_ : Nat) = _; omega) | (intro _; intros) | (refine ⟨_, by assumption, ?_⟩) | refine And.intro ?_ ?_))
      all_goals
        rintro m t2 h2 ⟨kn, kf, k3, k4, ⟨id, k49⟩, k50, i, k51, km⟩
        clear gn gf g18 g19 gi gm gw hd3 hd4
        by_cases hi : i < 10
        · have hix : ∃ x r, ∀ (id : Nat) (kk : IntKind) (h : H), Zgl 1 (.sl id 10 [.int .i64 (.ofNat 1), .int .i64 (.ofNat 2), .int .i64 (.ofNat 4), .int .i64 (.ofNat 5), .int .i64 (.ofNat 8), .int .i64 (.ofNat 11), .int .i64 (.ofNat 13), .int .i64 (.ofNat 15), .int .i64 (.ofNat 20), .int .i64 (.ofNat 24)]) (.int kk (.ofNat i)) h = .ok (.ep (.int .i64 (.ofNat x) :: r)) h := by
            have hd : kK.drop i = kK[i]'hi :: kK.drop (i + 1) := List.drop_eq_getElem_cons hi
            refine ⟨kK[i]'hi, Zgs (kK.drop (i + 1)), fun id kk h => ?_⟩
            rw [← kK_D]
            exact Ze8 hi (Zp1 hd)
          obtain ⟨x, r, hix⟩ := hix
          clear hq
          repeat' (with_reducible (first | refine ZA ?_ | refine ZB ?_ | refine ZQ ?_ | refine ZP ?_ | refine ZD ?_ | refine Zt ?_ | refine ZC ?_ | refine ZR ?_ | refine ZO ?_ | refine ZG ?_ | refine ZS ?_ | refine Z2y h6 ?_ | simp (maxSteps := 2000000) (disch := first | assumption | (show WN _ _; first | assumption | ((iterate 6 (try refine X5 (by assumption) (by omega) ?_)); first | assumption | exact X4 (by assumption) (by omega) | exact X3 (by assumption) (by assumption) | exact Yv | exact Vv (by assumption) (by assumption) (by assumption) (by omega) (by assumption))) | exact Yt (by omega) | omega | (simp only [Zm, Zl, List.length_cons, List.length_nil, List.length_append, List.length_take, List.length_drop]; omega) | fail) only [go_sem, -Int.reduceOfNat, *, kK_D] | ((first | refine Yh ?_ ?_ | refine ZV ?_ ?_ | refine Yg ?_ ?_ | refine ZT ?_ ?_ | refine ZU ?_ ?_ | refine ZH ?_ ?_) <;> intro _) | (refine ⟨m - 1, by omega, ?_⟩) | exact ⟨_, rfl⟩ | assumption | exact trivial | (show _ < _; omega) | (show _ ≤ _; omega) | (show ¬ (_ : Nat) = _; omega) | (show (_ : Nat) ≠ _; omega) | (show (_ : Nat) = _; omega) | (intro _; intros) | (refine ⟨_, by assumption, ?_⟩) | refine And.intro ?_ ?_))
        · obtain rfl : i = 10 := by omega
          repeat' (with_reducible (first | refine ZA ?_ | refine ZB ?_ | refine ZQ ?_ | refine ZP ?_ | refine ZD ?_ | refine Zt ?_ | refine ZC ?_ | refine ZR ?_ | refine ZO ?_ | refine ZG ?_ | refine ZS ?_ | refine Zsx w1 ?_ | refine Zsx w2 ?_ | refine Zsx w3 ?_ | refine vc10 h20 h19 h25 h21 h18 h10 gS gwl ?_ | refine vc11 h22 h26 h23 h24 h11 pS gwl ?_ | refine Zu2 h5 _ _ (Nat.lt_succ_self _) (by assumption) (by assumption) ?_ | simp (maxSteps := 2000000) (disch := first | assumption | (show WN _ _; first | assumption | ((iterate 6 (try refine X5 (by assumption) (by omega) ?_)); first | assumption | exact X4 (by assumption) (by omega) | exact X3 (by assumption) (by assumption) | exact Yv | exact Vv (by assumption) (by assumption) (by assumption) (by omega) (by assumption))) | exact Yt (by omega) | omega | (simp only [Zm, Zl, List.length_cons, List.length_nil, List.length_append, List.length_take, List.length_drop]; omega) | fail) only [go_sem, -Int.reduceOfNat, *, Zhc, Zl7] | ((first | refine Yh ?_ ?_ | refine ZV ?_ ?_ | refine Yg ?_ ?_ | refine ZT ?_ ?_ | refine ZU ?_ ?_ | refine ZH ?_ ?_) <;> intro _) | (show Q _ _; refine hq _ ?_ ?_) | assumption | exact trivial | (show _ < _; omega) | (show _ ≤ _; omega) | (show ¬ (_ : Nat) = _; omega) | (show (_ : Nat) ≠ _; omega) | (show (_ : Nat) = _; omega) | (intro _; intros) | (refine ⟨_, by assumption, ?_⟩) | refine And.intro ?_ ?_))
    | cons x r =>
      have hi := Zkw gr
      obtain ⟨hg, hr1⟩ := Zd4 gr
      obtain ⟨dx, rs, hdx, hix⟩ := hh.msg hg
      have xb := hb5 _ (List.mem_of_getElem? hg)
      have xx := hx5 _ (List.mem_of_getElem? hg)
      obtain ⟨k, s, exts⟩ := x
      simp only at hix xb xx hdx
      have dxc := hdx.cel
      have dxo := hdx.on
      clear gr hg hq hh hb5 hx5
      repeat' (with_reducible (first | refine ZA ?_ | refine ZB ?_ | refine ZQ ?_ | refine ZP ?_ | refine ZD ?_ | refine Zt ?_ | refine ZC ?_ | refine ZR ?_ | refine ZO ?_ | refine ZG ?_ | refine ZS ?_ | refine vc4 h4 h6 h12 h13 h14 h15 h18 h19 h20 h21 h22 h23 h24 h25 h26 h27 h28 h37 h38 h39 hr' xb hdx xx ?_ | refine Zu2 h5 _ _ (Nat.lt_succ_self _) (by assumption) (by assumption) ?_ | simp (maxSteps := 2000000) (disch := first | assumption | (show WN _ _; first | assumption | ((iterate 6 (try refine X5 (by assumption) (by omega) ?_)); first | assumption | exact X4 (by assumption) (by omega) | exact X3 (by assumption) (by assumption) | exact Yv | exact Vv (by assumption) (by assumption) (by assumption) (by omega) (by assumption))) | exact Yt (by omega) | omega | (simp only [Zm, Zl, List.length_cons, List.length_nil, List.length_append, List.length_take, List.length_drop]; omega) | fail) only [go_sem, -Int.reduceOfNat, *, oExt_3x, hne] | ((first | refine Yh ?_ ?_ | refine ZV ?_ ?_ | refine Yg ?_ ?_ | refine ZT ?_ ?_ | refine ZU ?_ ?_ | refine ZH ?_ ?_) <;> intro _) | (refine Zzk (xs := ws) (by assumption) gS (Tp.mono gT ?_ (fun _ _ _ => ?_)) (by omega) (by omega) ?_) | (refine Zzk (xs := ws) (by assumption) pS (Tp.mono pT ?_ (fun _ _ _ => ?_)) (by omega) (by omega) ?_) | (refine ⟨m - 1, by omega, ?_⟩) | (refine ⟨_, by assumption, by assumption, ?_⟩) | (refine Zk0 (by assumption) ?_) | (refine UP.trans (by assumption) (by first | omega | (simp only [Zm, Zl]; omega)) ?_) | (refine Tp.mono (by assumption) ?_ (fun _ _ _ => ?_)) | assumption | exact trivial | (show _ < _; omega) | (show _ ≤ _; omega) | (show ¬ (_ : Nat) = _; omega) | (show (_ : Nat) ≠ _; omega) | (show (_ : Nat) = _; omega) | (intro _; intros) | (refine ⟨_, by assumption, ?_⟩) | refine And.intro ?_ ?_))
end
end Run
end
end Go.Abs
