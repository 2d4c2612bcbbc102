/- Values: what makes them: walks of the program. -/
import Derived.Test.YtlkjicigmhhjbaaGreatDoorNeW
set_option linter.unusedVariables false
set_option linter.unusedSimpArgs false
namespace Go.Abs
noncomputable section
namespace Run
variable {E : Env} {T : Nat → ZE}
set_option maxHeartbeats 4000000
set_option maxRecDepth 100000
theorem Zab {G : Prop} (g : G := by
  repeat' (with_reducible (first | refine ZA ?_ | refine ZB ?_ | refine ZQ ?_ | refine ZP ?_ | refine ZD ?_ | refine Zt ?_ | refine ZC ?_ | refine ZR ?_ | refine ZO ?_ | refine ZG ?_ | refine ZS ?_ | simp (maxSteps := 2000000) (disch := first | assumption | omega | (simp only [Zm, Zl, List.length_cons, List.length_nil, List.length_append, List.length_take, List.length_drop]; omega) | fail) only [go_sem, -Int.reduceOfNat, *] | ((first | refine Yh ?_ ?_ | refine ZV ?_ ?_ | refine Yg ?_ ?_ | refine ZT ?_ ?_ | refine ZU ?_ ?_ | refine ZH ?_ ?_) <;> intro _) | (show Q _ _; refine hq _ ?_ ?_) | assumption | exact trivial | (show _ < _; omega) | (show _ ≤ _; omega) | (show ¬ (_ : Nat) = _; omega) | (show (_ : Nat) ≠ _; omega) | (show (_ : Nat) = _; omega) | (intro _; intros) | (refine ⟨_, by assumption, ?_⟩) | refine And.intro ?_ ?_))) : G := g
attribute [local go_sem] Zny Zib Zn1 Zh9 Zih Zh8 Zie Znx Zid Zic Znw Zbi Zij Zbg Zif Zeg Zbh Vh Zeh Znz Zil Zef Zig Zii Zik Zei Zbf Zej Zn0 Zf5 Zf4 Zia Zjw Zjx Zn5 Zoa Zim Zir Zip Zbk Zbj Vi Zio Zin Zn2 Zek Zit Ziq Zis Zel Zn8 Zn6 Zn9 Zn4 Zjz Zn7 Zj0 Zob Zg5 Zj1 Zof Zoe Zoh Ziu Zog Zxo Zxp Zxm Zxn Zue Zuf Zjc Zjb Zjd Zjj Zji Zjk Zpw Zpv Zfc Zfd Zfb Zot Zkn Zko Zkm Ze9 Zi5 Zby Ze6 Ze7 Zbz Zb0 Zi8 Zi7 Zi6 Zbv Ux Zc1 Zi2 Zo8 Zv4 Z2a UA Uz Zkj Zpi Zb1 Ze5 WS We UD Vp U5 patch Vn Vo Uw Uv Zcg Zcf VL VM Zbe Zfk Zcb UE Vs Uy Zb2 Zkl Zhd Vm Ws Vq mem_cons Zpq Zo7 Uo Option.map_some Option.map_none Zfa Zgm Zgo Zgn Zpk Zhc Zdu Zkk Zbx Zdw UK UF UL Zch UG UJ UH Vt UI Ze2 Zbt Ze4 Zez Zi4 Ze0 Ze3 Ze1 Zbu Zbs ZX U6 Vc Zfw WW XH Zp3 Zp2 Z51 V5 Zaf Zfo Zc3 Vk Uq Vr WT Wp UN Zba Zck List.drop_succ_cons List.drop_zero List.drop_nil List.take_succ_cons List.take_zero List.take_nil List.length_cons List.length_nil List.length_append List.cons_append List.nil_append Nat.reduceAdd Nat.reduceEqDiff Nat.reduceLeDiff Nat.reduceLT List.cons.injEq reduceCtorEq eq_self not_true_eq_false not_false_eq_true and_false false_and true_or or_true decide_true decide_false Bool.and_self Bool.and_true Bool.true_and Bool.true_or Bool.or_true Bool.false_or Bool.or_false Bool.false_and Bool.and_false Bool.not_true Bool.not_false cond_true cond_false true_and and_true Zg4 Zpg Zpz reduceIte Nat.add_zero Nat.zero_add Nat.add_sub_cancel Nat.reduceMul Nat.reduceSub Nat.reduceBEq List.map_cons List.map_nil Zm Zl WV YG Xu Yn Zj2 Zzl Yv Zdq Up Zj8 Zj7 Zgc Zgb and_assoc exists_and_left D.str.injEq Nat.lt_irrefl Nat.not_lt_zero true_implies false_implies implies_true forall_const ge_iff_le gt_iff_lt Nat.sub_zero List.append_assoc Option.some.injEq AObj.cells.injEq D.int.injEq D.ptr.injEq Int.ofNat.injEq exists_eq_left' D.v.injEq Value.bool.injEq D.agg.injEq Nat.mul_one
section
variable {h : H} {Q : D → H → Prop} {R : Uk}
def YI : List (D → Tr D → Tr D) := [St 0, St 1, St 2, St 3, St 4, St 5, St 6, St 7, St 8, St 9, St 10, St 11]
def Zh0 : ZE := Y5 YI (fun t h => YH ⟨[.cN 0 4], .skip⟩ (act t) h)
 (Z0 (Z1<|fo (Za 31 [(.int .i64 (.ofNat 0)),(.int .u64 (.ofNat 0)),(.str []),(.v (.slice none 0 0))]) (St 0)<|Z2)
 (Z0 (Z1<|fo (Zy [(.int .i64 (.ofNat 0)),(.int .u64 (.ofNat 0)),(.str []),(.v (.slice none 0 0))] []) (St 1)<|fo (Ze 4 (Gt 0) (Gt 1)) p0<|Z2)
 Zb))
def Zh1 : ZE := Y5 YI (fun t h => YH ⟨[.cN 2 4], .skip⟩ (act t) h)
 (Z0 (Z1<|fo (Za 31 [(.int .i64 (.ofNat 0)),(.int .u64 (.ofNat 0)),(.str []),(.v (.slice none 0 0))]) (St 2)<|Z2)
 (Z0 (Z1<|mM 0 3<|fo (Zy [(.int .i64 (.ofNat 0)),(.int .u64 (.ofNat 0)),(.str []),(.v (.slice none 0 0))] [(0,1,(kI 1)),(1,1,(Gt 3))]) (St 4)<|fo (Ze 4 (Gt 2) (Gt 4)) p0<|Z2)
 Zb))
def Zhw : ZE := Y5 YI (fun t h => YH ⟨[.cN 2 4], .skip⟩ (act t) h)
 (Z0 (Z1<|fo (Za 31 [(.int .i64 (.ofNat 0)),(.int .u64 (.ofNat 0)),(.str []),(.v (.slice none 0 0))]) (St 2)<|Z2)
 (Z0 (Z1<|mM 0 3<|fo (Zy [(.int .i64 (.ofNat 0)),(.int .u64 (.ofNat 0)),(.str []),(.v (.slice none 0 0))] [(0,1,(kI 2)),(2,1,(Gt 3))]) (St 4)<|fo (Ze 4 (Gt 2) (Gt 4)) p0<|Z2)
 Zb))
def Zju : ZE := Y5 YI (fun t h => YH ⟨[.cN 2 4], .skip⟩ (act t) h)
 (Z0 (Z1<|fo (Za 31 [(.int .i64 (.ofNat 0)),(.int .u64 (.ofNat 0)),(.str []),(.v (.slice none 0 0))]) (St 2)<|Z2)
 (Z0 (Z1<|mM 0 3<|fo (Zy [(.int .i64 (.ofNat 0)),(.int .u64 (.ofNat 0)),(.str []),(.v (.slice none 0 0))] [(0,1,(kI 3)),(3,1,(Gt 3))]) (St 4)<|fo (Ze 4 (Gt 2) (Gt 4)) p0<|Z2)
 Zb))
def Zjv : ZE := Y5 YI (fun t h => YH ⟨[.cN 2 4], .skip⟩ (act t) h)
 (Z0 (Z1<|fo (Za 31 [(.int .i64 (.ofNat 0)),(.int .u64 (.ofNat 0)),(.str []),(.v (.slice none 0 0))]) (St 2)<|Z2)
 (Z0 (Z1<|mM 0 3<|fo (Zy [(.int .i64 (.ofNat 0)),(.int .u64 (.ofNat 0)),(.str []),(.v (.slice none 0 0))] [(0,1,(kI 4)),(3,1,(Gt 3))]) (St 4)<|fo (Ze 4 (Gt 2) (Gt 4)) p0<|Z2)
 Zb))
def Zhz : ZE := Y5 YI (fun t h => YH ⟨[.cN 2 4], .skip⟩ (act t) h)
 (Z0 (Z1<|fo (Za 33 [(.int .i64 (.ofNat 0)),(.int .u64 (.ofNat 0)),(.str []),(.v (.slice none 0 0))]) (St 2)<|Z2)
 (Z0 (Z1<|mM 0 3<|fo (Zy [(.int .i64 (.ofNat 0)),(.int .u64 (.ofNat 0)),(.str []),(.v (.slice none 0 0))] [(0,1,(kI 1)),(1,1,(Gt 3))]) (St 4)<|fo (Ze 4 (Gt 2) (Gt 4)) p0<|Z2)
 Zb))
def Zhv : ZE := Y5 YI (fun t h => YH ⟨[.cN 2 4], .skip⟩ (act t) h)
 (Z0 (Z1<|fo (Za 33 [(.int .i64 (.ofNat 0)),(.int .u64 (.ofNat 0)),(.str []),(.v (.slice none 0 0))]) (St 2)<|Z2)
 (Z0 (Z1<|mM 0 3<|fo (Zy [(.int .i64 (.ofNat 0)),(.int .u64 (.ofNat 0)),(.str []),(.v (.slice none 0 0))] [(0,1,(kI 2)),(2,1,(Gt 3))]) (St 4)<|fo (Ze 4 (Gt 2) (Gt 4)) p0<|Z2)
 Zb))
def Zhy : ZE := Y5 YI (fun t h => YH ⟨[.cN 2 4], .skip⟩ (act t) h)
 (Z0 (Z1<|fo (Za 33 [(.int .i64 (.ofNat 0)),(.int .u64 (.ofNat 0)),(.str []),(.v (.slice none 0 0))]) (St 2)<|Z2)
 (Z0 (Z1<|mM 0 3<|fo (Zy [(.int .i64 (.ofNat 0)),(.int .u64 (.ofNat 0)),(.str []),(.v (.slice none 0 0))] [(0,1,(kI 3)),(3,1,(Gt 3))]) (St 4)<|fo (Ze 4 (Gt 2) (Gt 4)) p0<|Z2)
 Zb))
def Zhx : ZE := Y5 YI (fun t h => YH ⟨[.cN 2 4], .skip⟩ (act t) h)
 (Z0 (Z1<|fo (Za 33 [(.int .i64 (.ofNat 0)),(.int .u64 (.ofNat 0)),(.str []),(.v (.slice none 0 0))]) (St 2)<|Z2)
 (Z0 (Z1<|mM 0 3<|fo (Zy [(.int .i64 (.ofNat 0)),(.int .u64 (.ofNat 0)),(.str []),(.v (.slice none 0 0))] [(0,1,(kI 4)),(3,1,(Gt 3))]) (St 4)<|fo (Ze 4 (Gt 2) (Gt 4)) p0<|Z2)
 Zb))
theorem Zdb (h20 : T 20 = Zh0)  (hq : ∀ h', h.next ≤ h'.next → (∀ l, l < h.next → hget h'.mem l = hget h.mem l) → Q (.agg [.int .i64 (.ofNat 0), .int .u64 (.ofNat 0), .str [], .v (.slice none 0 0)]) h') : VC E T 20 [] h Q R := by
  refine YK h20 ?_
  unfold YI
  exact Zab
theorem Zdc (h19 : T 19 = Zh1) {n : Nat} (hq : ∀ h', h.next ≤ h'.next → (∀ l, l < h.next → hget h'.mem l = hget h.mem l) → Q (.agg [.int .i64 (.ofNat 1), .int .u64 (.ofNat n), .str [], .v (.slice none 0 0)]) h') : VC E T 19 [.int .u64 (.ofNat n)] h Q R := by
  refine YK h19 ?_
  unfold YI
  exact Zab
theorem Zud (h22 : T 22 = Zhz) {n : Nat} (hq : ∀ h', h.next ≤ h'.next → (∀ l, l < h.next → hget h'.mem l = hget h.mem l) → Q (.agg [.int .i64 (.ofNat 1), .int .u64 (.ofNat n), .str [], .v (.slice none 0 0)]) h') : VC E T 22 [.int .u64 (.ofNat n)] h Q R := by
  refine YK h22 ?_
  unfold YI
  exact Zab
theorem Zda (h25 : T 25 = Zhw) {s : List Nat} (hq : ∀ h', h.next ≤ h'.next → (∀ l, l < h.next → hget h'.mem l = hget h.mem l) → Q (.agg [.int .i64 (.ofNat 2), .int .u64 (.ofNat 0), .str s, .v (.slice none 0 0)]) h') : VC E T 25 [.str s] h Q R := by
  refine YK h25 ?_
  unfold YI
  exact Zab
theorem Zua (h26 : T 26 = Zhv) {s : List Nat} (hq : ∀ h', h.next ≤ h'.next → (∀ l, l < h.next → hget h'.mem l = hget h.mem l) → Q (.agg [.int .i64 (.ofNat 2), .int .u64 (.ofNat 0), .str s, .v (.slice none 0 0)]) h') : VC E T 26 [.str s] h Q R := by
  refine YK h26 ?_
  unfold YI
  exact Zab
theorem Zem (h21 : T 21 = Zju) {L : D} (hc : L.cells = [L]) (ho : L.one = true) (hq : ∀ h', h.next ≤ h'.next → (∀ l, l < h.next → hget h'.mem l = hget h.mem l) → Q (.agg [.int .i64 (.ofNat 3), .int .u64 (.ofNat 0), .str [], L]) h') : VC E T 21 [L] h Q R := by
  refine YK h21 ?_
  unfold YI
  exact Zab
theorem Zuc (h23 : T 23 = Zhy) {L : D} (hc : L.cells = [L]) (ho : L.one = true) (hq : ∀ h', h.next ≤ h'.next → (∀ l, l < h.next → hget h'.mem l = hget h.mem l) → Q (.agg [.int .i64 (.ofNat 3), .int .u64 (.ofNat 0), .str [], L]) h') : VC E T 23 [L] h Q R := by
  refine YK h23 ?_
  unfold YI
  exact Zab
theorem Zen (h18 : T 18 = Zjv) {L : D} (hc : L.cells = [L]) (ho : L.one = true) (hq : ∀ h', h.next ≤ h'.next → (∀ l, l < h.next → hget h'.mem l = hget h.mem l) → Q (.agg [.int .i64 (.ofNat 4), .int .u64 (.ofNat 0), .str [], L]) h') : VC E T 18 [L] h Q R := by
  refine YK h18 ?_
  unfold YI
  exact Zab
theorem Zub (h24 : T 24 = Zhx) {L : D} (hc : L.cells = [L]) (ho : L.one = true) (hq : ∀ h', h.next ≤ h'.next → (∀ l, l < h.next → hget h'.mem l = hget h.mem l) → Q (.agg [.int .i64 (.ofNat 4), .int .u64 (.ofNat 0), .str [], L]) h') : VC E T 24 [L] h Q R := by
  refine YK h24 ?_
  unfold YI
  exact Zab
end
section
variable {h : H} {Q : D → H → Prop} {R : Uk}
def q5 : ZE := Y5 YI (fun t h => .ok (Gt 4 t) h)
 (Z0 (Z1<|fo (Ye 31 (Gt 0)) (St 2)<|fo (Ye 33 (Gt 1)) (St 3)<|fo (Yf (kD (.v (.bool false)))) (St 4)<|Z2)
 (Z0 (Z0 (Z1<|mF 0 2 6<|mL 6 7<|mF 0 3 8<|mL 8 9<|fo (Zd U6 .neq 3 (.tmp 7) (.tmp 9) (Gt 7) (Gt 9)) (St 10)<|mM 10 11<|Zr (Gt 11) false (u1 (Zcq 1) (Gt 2)) (St 12)<|Zr (Gt 11) false (ZJ (Gt 12)) (St 13)<|Zr (Gt 11) false (u1 (Zcq 1) (Gt 3)) (St 14)<|Zr (Gt 11) false (ZJ (Gt 14)) (St 15)<|Zr (Gt 11) false (Zd U6 .neq 29 (.tmp 13) (.tmp 15) (Gt 13) (Gt 15)) (St 16)<|fo (Zu (Gt 11) (kD (.v (.bool true))) (Gt 16)) (St 17)<|mM 17 18<|Zr (Gt 18) false (u1 (Zcq 2) (Gt 2)) (St 19)<|Zr (Gt 18) false (ZJ (Gt 19)) (St 20)<|Zr (Gt 18) false (u1 (Zcq 2) (Gt 3)) (St 21)<|Zr (Gt 18) false (ZJ (Gt 21)) (St 22)<|Zr (Gt 18) false (Zd U6 .neq 9 (.tmp 20) (.tmp 22) (Gt 20) (Gt 22)) (St 23)<|fo (Zu (Gt 18) (kD (.v (.bool true))) (Gt 23)) (St 24)<|mM 24 25<|Zr (Gt 25) false (u1 (Zcq 3) (Gt 2)) (St 26)<|Zr (Gt 25) false (ZJ (Gt 26)) (St 27)<|Zr (Gt 25) false (u1 V6 (Gt 27)) (St 28)<|Zr (Gt 25) false (u1 (Zcq 3) (Gt 3)) (St 29)<|Zr (Gt 25) false (ZJ (Gt 29)) (St 30)<|Zr (Gt 25) false (u1 V6 (Gt 30)) (St 31)<|Zr (Gt 25) false (Zd U6 .neq 3 (.tmp 28) (.tmp 31) (Gt 28) (Gt 31)) (St 32)<|fo (Zu (Gt 25) (kD (.v (.bool true))) (Gt 32)) (St 33)<|Z2)
 (Z7 (Gt 33) (Z0 (Z1<|fo (Yf (kD (.v (.bool false)))) (St 4)<|Z2)
 Zb) Z8))
 (Z0 (Z0 (Z1<|mF 3 2 34<|mL 34 35<|fo (u1 V6 (Gt 35)) (St 36)<|fo (Yf (kI 0)) (St 37)<|Z2)
 (Zc 0 (ZI (Z0 (Z1<|fo (Zd Vc .lss 3 (.tmp 37) (.tmp 36) (Gt 37) (Gt 36)) (St 38)<|Z2)
 (Z0 (Z7 (Gt 38) Z8 (ZL 0))
 (Z0 (Zc 1 (Z0 (Z1<|mM 37 39<|mM 39 5<|Z2)
 (Z0 (Zv<|Zf (u1 (Zcq 3) (Gt 2)) (St 40)<|Xv 1 [] 1 (Gt 40) (ZJ (Gt 40)) (St 41)<|Zf (Yf (Gt 5)) (St 42)<|Zf (u2 (Vw 4) (Gt 41) (Gt 42)) (St 43)<|Xv 4 [] 4 (Gt 43) (Zi 4 (Gt 43)) (St 44)<|Zf (u1 (Zcq 3) (Gt 3)) (St 45)<|Xv 6 [0,1,2,3,4] 1 (Gt 45) (ZJ (Gt 45)) (St 46)<|Zf (Yf (Gt 5)) (St 47)<|Zf (u2 (Vw 4) (Gt 46) (Gt 47)) (St 48)<|Xv 9 [0,1,2,3,4] 4 (Gt 48) (Zi 4 (Gt 48)) (St 49)<|Wi 10 [] (Z9 5 [(Gt 44),(Gt 49)]) (St 50)<|Zf (u1 (Zo9 .not) (Gt 50)) (St 51)<|Zw)
 (Z7 (Gt 51) (Z0 (Z1<|fo (Yf (kD (.v (.bool false)))) (St 4)<|Z2)
 Zb) Z8))))
 (Z1<|fo (Zd Y2 .add 3 (.tmp 37) (.const (.int .i64 (.ofNat 1))) (Gt 37) (kI 1)) (St 52)<|mM 52 37<|Z2)))))))
 (Z0 (Z1<|fo (Yf (kD (.v (.bool true)))) (St 4)<|Z2)
 Zb))))
inductive V
  | mk (k n : Nat) (b : List Nat) (l : List V)
inductive Rep : V → List D → Prop
  | mk {k n : Nat} {b : List Nat} {l : List V} {L : D} {cs : List (List D)} (hb : l.length ≤ 1000000) (hn : cs.length = l.length) (h4 : ∀ c ∈ cs, c.length = 4) (hr : ∀ (i : Nat) (v : V) (c : List D), l[i]? = some v → cs[i]? = some c → Rep v c)
      (hL : (l = [] ∧ L = .v (.slice none 0 0)) ∨ ∃ id, L = .sl id cs.length cs.flatten ∧ l ≠ []) : Rep (.mk k n b l) [.int .i64 (.ofNat k), .int .u64 (.ofNat n), .str b, L]
theorem Rep.of {k n : Nat} {b : List Nat} {l : List V} {L : D} (hb : l.length ≤ 1000000) (h : XK Rep 4 L l) : Rep (.mk k n b l) [.int .i64 (.ofNat k), .int .u64 (.ofNat n), .str b, L] := by
  obtain ⟨cs, hr, h4, hL⟩ := h
  exact .mk hb hr.1 h4 hr.2 hL
theorem Rep.inv {k n : Nat} {b : List Nat} {l : List V} {c : List D} (h : Rep (.mk k n b l) c) : ∃ L, c = [.int .i64 (.ofNat k), .int .u64 (.ofNat n), .str b, L] ∧ l.length ≤ 1000000 ∧ XK Rep 4 L l := by
  cases h with
  | mk hb hn h4 hr hL => exact ⟨_, rfl, hb, _, ⟨hn, hr⟩, h4, hL⟩
def Zqk : List V → List D → Prop
  | [], cs => cs = []
  | v :: vs, cs => ∃ a b c d r, cs = a :: b :: c :: d :: r ∧ Rep v [a, b, c, d] ∧ Zqk vs r
theorem Zlo : ∀ {vs : List V} {cs : List D}, Zqk vs cs → ∃ css : List (List D), cs = css.flatten ∧ Rows Rep vs css ∧ ∀ c ∈ css, c.length = 4
  | [], _, h => ⟨[], h, Rows.nil, by simp⟩
  | v :: vs, cs, h => by
    obtain ⟨a, b, c, d, r, rfl, h1, h2⟩ := h
    obtain ⟨css, rfl, h3, h4⟩ := Zlo h2
    refine ⟨[a, b, c, d] :: css, rfl, ⟨by simp [h3.1], fun i v' c' hi hc => ?_⟩, fun x hx => ?_⟩
    · cases i with
      | zero => cases hi; cases hc; exact h1
      | succ i => exact h3.2 i v' c' (by simpa using hi) (by simpa using hc)
    · rcases List.mem_cons.1 hx with rfl | hx
      · rfl
      · exact h4 x hx
theorem Yl {vs : List V} {cs : List D} {id n : Nat} (h : Zqk vs cs) (hn : vs.length = n) (hne : vs ≠ []) : XK Rep 4 (.sl id n cs) vs := by
  obtain ⟨css, rfl, h3, h4⟩ := Zlo h
  exact ⟨css, h3, h4, .inr ⟨id, by rw [h3.1, hn], hne⟩⟩
theorem V.lt {k n : Nat} {b : List Nat} {l : List V} {x : V} (h : x ∈ l) : SizeOf.sizeOf x < SizeOf.sizeOf (V.mk k n b l) := by
  have := List.sizeOf_lt_of_mem h
  simp
  omega
theorem len4 {l : List D} (h : l.length = 4) : ∃ a b c d, l = [a, b, c, d] := by
  match l, h with
  | [a, b, c, d], _ => exact ⟨a, b, c, d, rfl⟩
theorem Zj6 {d : D} {l : List V} (hr : XK Rep 4 d l) {i : Nat} {x : V} (hx : l[i]? = some x) : ∃ a b e f rest, Rep x [a, b, e, f] ∧ ∀ (kk : IntKind) (h : H), Zgl 4 d (.int kk (.ofNat i)) h = .ok (.ep (a :: b :: e :: f :: rest)) h := by
  obtain ⟨cs, hw, hl, hd⟩ := hr
  have hi : i < l.length := (List.getElem?_eq_some_iff.1 hx).1
  have hc : cs[i]? = some (cs[i]'(by rw [hw.1]; exact hi)) := List.getElem?_eq_getElem (by rw [hw.1]; exact hi)
  have h1 := hw.2 i x _ hx hc
  have h2 := hl _ (List.mem_of_getElem? hc)
  obtain ⟨a, b, e, f, he⟩ := len4 h2
  rcases hd with ⟨rfl, _⟩ | ⟨id, rfl, _⟩
  · simp at hx
  have hf := Zb8 hl (i := i) (by rw [hw.1]; exact hi)
  rw [he] at hf h1
  exact ⟨a, b, e, f, _, h1, fun kk h => Ze8 (by rw [hw.1]; exact hi) hf⟩
theorem Zzr {d : D} {l : List V} (hr : XK Rep 4 d l) (m : H) : Zgk d m = .ok (.int .i64 (.ofNat l.length)) m := hr.len m
abbrev ISm (h : H) (c1 c2 : List D) (n m : Nat) (t1 : Tr D) (h1 : H) : Prop :=
  h.next + 2 ≤ h1.next ∧ (∀ l, l < h.next → hget h1.mem l = hget h.mem l) ∧ Gt 36 t1 = .int .i64 (.ofNat n) ∧ Gt 2 t1 = .ptr h.next 0 ∧ Gt 3 t1 = .ptr (h.next + 1) 0 ∧ hget h1.mem h.next = some (.cells 31 c1) ∧ hget h1.mem (h.next + 1) = some (.cells 33 c2) ∧ ∃ i, Gt 37 t1 = .int .i64 (.ofNat i) ∧ i + m = n
theorem Zu2 (h5 : T 5 = q5) : ∀ (z : Nat) (v : V), SizeOf.sizeOf v < z → ∀ {a b : List D} {h : H} {Q : D → H → Prop} {R : Uk}, Rep v a → Rep v b → (∀ h', h.next ≤ h'.next → (∀ l, l < h.next → hget h'.mem l = hget h.mem l) → Q (.v (.bool true)) h') → VC E T 5 [.agg a, .agg b] h Q R := by
  intro z
  induction z with
  | zero => intro v hv; exact absurd hv (Nat.not_lt_zero _)
  | succ z ih =>
  intro v hz a b h Q R ha hb hq
  obtain ⟨k, n, bs, l⟩ := v
  obtain ⟨L1, rfl, hl, s1⟩ := ha.inv
  obtain ⟨L2, rfl, _, s2⟩ := hb.inv
  have e1 := Zzr s1
  have e2 := Zzr s2
  have o1 := Y3 s1
  have o2 := Y3 s2
  refine YK h5 ?_
  unfold YI
  repeat' (with_reducible (first | refine ZA ?_ | refine ZB ?_ | refine ZQ ?_ | refine ZP ?_ | refine ZD ?_ | refine Zt ?_ | refine ZC ?_ | refine ZR ?_ | refine ZO ?_ | refine ZG ?_ | refine ZS ?_ | simp (maxSteps := 2000000) (disch := first | assumption | omega | (simp only [Zm, Zl, List.length_cons, List.length_nil, List.length_append, List.length_take, List.length_drop]; omega) | fail) only [go_sem, -Int.reduceOfNat, *, Zdu, Zl7, Bool.not_true] | ((first | refine Yh ?_ ?_ | refine ZV ?_ ?_ | refine Yg ?_ ?_ | refine ZT ?_ ?_ | refine ZU ?_ ?_ | refine ZH ?_ ?_) <;> intro _) | (refine Zah (ISm h [.int .i64 (.ofNat k), .int .u64 (.ofNat n), .str bs, L1] [.int .i64 (.ofNat k), .int .u64 (.ofNat n), .str bs, L2] l.length) (n := l.length) ?_ ?_) | assumption | exact trivial | (show _ < _; omega) | (show _ ≤ _; omega) | (show ¬ (_ : Nat) = _; omega) | (show (_ : Nat) ≠ _; omega) | (show (_ : Nat) = _; omega) | (intro _; intros) | (refine ⟨_, by assumption, ?_⟩) | refine And.intro ?_ ?_))
  all_goals
    rintro m t1 h1 ⟨gn, gf, g36, g2, g3, m2, m3, i, g37, gi⟩
    by_cases hlt : i < l.length
    · obtain ⟨v, hv⟩ : ∃ v, l[i]? = some v := ⟨_, List.getElem?_eq_getElem hlt⟩
      obtain ⟨a1, a2, a3, a4, r1, ra, x1⟩ := Zj6 s1 hv
      obtain ⟨b1, b2, b3, b4, r2, rb, x2⟩ := Zj6 s2 hv
      have hsz := Nat.lt_of_lt_of_le (V.lt (k := k) (n := n) (b := bs) (List.mem_of_getElem? hv)) (Nat.le_of_lt_succ hz)
      clear hv
      repeat' (with_reducible (first | refine ZA ?_ | refine ZB ?_ | refine ZQ ?_ | refine ZP ?_ | refine ZD ?_ | refine Zt ?_ | refine ZC ?_ | refine ZR ?_ | refine ZO ?_ | refine ZG ?_ | refine ZS ?_ | refine ih _ hsz ra rb ?_ | simp (maxSteps := 2000000) (disch := first | assumption | omega | (simp only [Zm, Zl, List.length_cons, List.length_nil, List.length_append, List.length_take, List.length_drop]; omega) | fail) only [go_sem, -Int.reduceOfNat, *] | ((first | refine Yh ?_ ?_ | refine ZV ?_ ?_ | refine Yg ?_ ?_ | refine ZT ?_ ?_ | refine ZU ?_ ?_ | refine ZH ?_ ?_) <;> intro _) | (refine ⟨m - 1, by omega, ?_⟩) | assumption | exact trivial | (show _ < _; omega) | (show _ ≤ _; omega) | (show ¬ (_ : Nat) = _; omega) | (show (_ : Nat) ≠ _; omega) | (show (_ : Nat) = _; omega) | (intro _; intros) | (refine ⟨_, by assumption, ?_⟩) | refine And.intro ?_ ?_))
    · obtain rfl : i = l.length := by omega
      exact Zab
end
section
variable {h : H} {Q : D → H → Prop} {R : Uk}
section
variable {p : D → Tr D → Tr D} {k : FR} {kd : FD} {recs : List Rec} {t : Tr D} {h : H} {Q : Uc} {R : Uk}
theorem Z24 {n : Nat} : IntKind.wrap .u64 (Int.ofNat n) = Int.ofNat (n % 18446744073709551616) := by
  simp only [IntKind.wrap, IntKind.bits, IntKind.signed, Bool.false_and]
  simp only [Bool.false_eq_true, if_false]
  have e1 : (Int.ofNat n) = (n : Int) := rfl
  have e2 : Int.ofNat (n % 18446744073709551616) = ((n % 18446744073709551616 : Nat) : Int) := rfl
  have e3 : (2 : Int) ^ 64 = 18446744073709551616 := by decide
  rw [e1, e2, e3]
  omega
theorem Z0y {n : Nat} : Zf2 .u64 (.ofNat n) = .ofNat (n % 18446744073709551616) := by
  rw [Znt, Znu, Z24]
theorem Wm {n : Nat} (hn : n < 18446744073709551616) : Zf2 .u64 (.ofNat n) = .ofNat n := by rw [Z0y, Nat.mod_eq_of_lt hn]
def oBi (E : Env) (b : Builtin) (ts : Array TypeId) (ty : TypeId) (cs : Array Bool) (ds : List D) (h : H) : O D :=
  match Zex ds with
  | some vs => match Zeo E.P (builtin b ts ty cs vs.toArray) with
    | some (.value v) => .ok (.of v) h
    | _ => .fail "builtin"
  | none => .fail "builtin: args"
theorem Zsw {b : Builtin} {ts : Array TypeId} {ty : TypeId} {cs : Array Bool} {gs : List (Tr D → D)} : VR E T (fo (Zqv b ts ty cs gs) p k) t h Q R ↔ vO E T (oBi E b ts ty cs (Zkv gs t) h) p k t Q R := Xx fun _ => rfl
theorem Zzj {b : Builtin} {ts : Array TypeId} {ty : TypeId} {cs : Array Bool} {gs : List (Tr D → D)} : VD E T (Zf (Zqv b ts ty cs gs) p kd) recs t h Q R ↔ vD E T (oBi E b ts ty cs (Zkv gs t) h) p kd recs t Q R := Ve fun _ => rfl
theorem oBi_two {b : Builtin} {ts : Array TypeId} {ty : TypeId} {cs : Array Bool} {k : IntKind} {a c : Int} : oBi E b ts ty cs [.int k a, .int k c] h = match Zeo E.P (builtin b ts ty cs #[.int k a, .int k c]) with
    | some (.value v) => .ok (.of v) h
    | _ => .fail "builtin" := by
  have e : Zex [.int k a, .int k c] = some [.int k a, .int k c] := rfl
  simp only [oBi, e]
theorem Zno {ts : Array TypeId} {ty : TypeId} {cs : Array Bool} {k : IntKind} {a b : Nat} : oBi E .min ts ty cs [.int k (.ofNat a), .int k (.ofNat b)] h = .ok (.int k (.ofNat (min a b))) h := by
  have e : (if (Int.ofNat b) < (Int.ofNat a) then Int.ofNat b else Int.ofNat a) = Int.ofNat (min a b) := by
    show (if (b : Int) < (a : Int) then (b : Int) else (a : Int)) = ((min a b : Nat) : Int)
    omega
  rw [oBi_two, ← e]
  rfl
theorem Z6m {ty : TypeId} {ox oy : Operand} {a b : Nat} (hb : ¬ b = 0) : Uu (Zcr E .rem ty ox oy (.int .i64 (.ofNat a)) (.int .i64 (.ofNat b))) h "bin" = .ok (.int .i64 (.ofNat (a % b))) h := by
  have h0 : ¬ (Int.ofNat b = 0) := fun e => hb (Int.ofNat.inj e)
  have e : Uu (Zcr E .rem ty ox oy (.int .i64 (.ofNat a)) (.int .i64 (.ofNat b))) h "bin" = Uu (match Zeo E.P (Op.intDiv .rem .i64 (.ofNat a) (.ofNat b)) with
    | some v => some (D.of v)
    | none => none) h "bin" := rfl
  rw [e]
  simp only [Op.intDiv, h0, if_false]
  rfl
end
section
variable {p : D → Tr D → Tr D} {k : FR} {kd : FD} {recs : List Rec} {t : Tr D} {h h0 : H} {Q : Uc} {R : Uk} {i : Nat} {inc : List Nat}
theorem Rep.one {v : V} {c : List D} (h : Rep v c) : Xa c = true := by
  cases h with
  | mk hb hn h4 hr hL =>
    rcases hL with ⟨_, rfl⟩ | ⟨id, rfl, _⟩ <;> rfl
theorem Zqi : ∀ {a b : List D}, Xa a = true → Xa b = true → Xa (a ++ b) = true
  | [], _, _, h => h
  | x :: a, b, h1, h2 => by
    simp only [Xa, Bool.and_eq_true, List.cons_append] at h1 ⊢
    exact ⟨h1.1, Zqi h1.2 h2⟩
theorem Zve : ∀ {vs : List V} {cs : List D}, Zqk vs cs → Xa cs = true
  | [], _, h => by rw [h]; rfl
  | v :: vs, cs, h => by
    obtain ⟨a, b, c, d, r, rfl, h1, h2⟩ := h
    exact Zqi (a := [a, b, c, d]) h1.one (Zve h2)
theorem Zvf : ∀ {vs : List V} {cs : List D}, Zqk vs cs → cs.length = vs.length * 4
  | [], _, h => by rw [h]; rfl
  | v :: vs, cs, h => by
    obtain ⟨a, b, c, d, r, rfl, h1, h2⟩ := h
    have := Zvf h2
    simp only [List.length_cons, this]
    omega
theorem Z4u {α : Type} {F : α → List D → Prop} {xs ys : List α} {cs ds : List (List D)} (h1 : Rows F xs cs) (h2 : Rows F ys ds) : Rows F (xs ++ ys) (cs ++ ds) := by
  refine ⟨by simp [h1.1, h2.1], fun i y d e1 e2 => ?_⟩
  by_cases hi : i < xs.length
  · rw [List.getElem?_append_left hi] at e1
    rw [List.getElem?_append_left (by rw [h1.1]; exact hi)] at e2
    exact h1.2 i y d e1 e2
  · rw [List.getElem?_append_right (by omega)] at e1
    rw [List.getElem?_append_right (by rw [h1.1]; omega), h1.1] at e2
    exact h2.2 _ y d e1 e2
theorem Zut {e bytes m k : Nat} {d : D} {xs ys : List V} {c : List D} {h : H} (hr : XK Rep 4 d xs) (ht : Tp h e d xs.length) (hy : Zqk ys c) (hk : ys.length = k) (k0 : 0 < k) (hs : xs.length + k ≤ 1000000) (hb : bytes ≤ 1000) :
    ∃ id cs h', Zdv e 4 bytes d (.sl m k c) h = .ok (.sl id (xs.length + k) cs) h' ∧ XK Rep 4 (.sl id (xs.length + k) cs) (xs ++ ys) ∧ Tp h' e (.sl id (xs.length + k) cs) (xs.length + k) ∧ h.next ≤ h'.next ∧ (∀ l : Nat, l < h.next → WN d l → hget h'.mem l = hget h.mem l) ∧ UP (.sl id (xs.length + k) cs) d h.next := by
  have ho := Zve hy
  have hz := Zvf hy
  obtain ⟨css, rfl, hyr, hy4⟩ := Zlo hy
  obtain ⟨cs, r, hcs, ⟨rfl, rfl⟩ | ⟨id, rfl, hne⟩⟩ := hr
  · have hcs0 : cs = [] := by
      have := r.1
      exact List.eq_nil_of_length_eq_zero (by simpa using this)
    subst hcs0
    have hb' : k * bytes ≤ 140737488355328 := by
      have : k * bytes ≤ 1000000 * 1000 := Nat.mul_le_mul (by simp at hs; exact hs) hb
      omega
    simp only [List.length_nil, Nat.zero_add, List.nil_append] at hs ⊢
    refine ⟨_, _, _, Zv6 k0 ho (by rw [hz, hk]) (by decide) hb' (by omega), ⟨css, hyr, hy4, .inr ⟨h.next, by rw [hyr.1, hk], fun e => by subst e; simp at hk; omega⟩⟩, ?_, ?_, ?_, ?_⟩
    · exact Zmx (by simp only [Zm]; simp) (VA rfl)
    · simp only [Zm]; omega
    · intro l hl _
      exact YG (by omega)
    · intro l hl
      exact ⟨fun _ => Yv, fun _ he => by rw [Zya] at he; omega⟩
  · have hid := ht id rfl
    have hb' : (cs.length + k) * bytes ≤ 140737488355328 := by
      have : (cs.length + k) * bytes ≤ 1000000 * 1000 := Nat.mul_le_mul (by have := r.1; omega) hb
      omega
    have hfl : cs.flatten.length = cs.length * 4 := Zl1 hcs
    rw [← r.1] at hid
    rw [← r.1]
    refine ⟨id, _, _, Zta hid.2 k0 ho (by rw [hz, hk]) hfl (by decide) hb' (by have := r.1; omega), ⟨cs ++ css, Z4u r hyr, ?_, .inr ⟨id, ?_, by simp [hne]⟩⟩, ?_, ?_, ?_, ?_⟩
    · intro y hy
      rcases List.mem_append.1 hy with hy | hy
      · exact hcs y hy
      · exact hy4 y hy
    · simp [hyr.1, hk]
    · exact Zmx (by simp only [Zl]; exact hid.1) Xu
    · simp only [Zl]; omega
    · intro l hl hne
      exact Yn fun he => hne he
    · intro l hl
      exact Iff.rfl
theorem Zct {e bytes m n : Nat} {d : D} {xs ys : List V} {c : List D} (hr : XK Rep 4 d xs) (ht : Tp h e d xs.length) (hy : Zqk ys c) (hk : ys.length = n) (k0 : 0 < n) (hs : xs.length + n ≤ 1000000) (hb : bytes ≤ 1000)
    (hq : ∀ id cs h', XK Rep 4 (.sl id (xs.length + n) cs) (xs ++ ys) → Tp h' e (.sl id (xs.length + n) cs) (xs.length + n) → h.next ≤ h'.next → Zzh (.sl id (xs.length + n) cs) h'.next → (∀ l : Nat, l < h.next → WN d l → hget h'.mem l = hget h.mem l) → UP (.sl id (xs.length + n) cs) d h.next → vL E T (.ok (.sl id (xs.length + n) cs) h') i inc h0 p kd recs t Q R) : vL E T (Zdv e 4 bytes d (.sl m n c) h) i inc h0 p kd recs t Q R := by
  obtain ⟨id, cs, h', e1, a1, a2, a3, a5, a6⟩ := Zut (m := m) hr ht hy hk k0 hs hb
  rw [e1]; exact hq id cs h' a1 a2 a3 a2.bnd a5 a6
theorem Z7i {e bytes m n : Nat} {d : D} {xs ys : List V} {c : List D} (hr : XK Rep 4 d xs) (ht : Tp h e d xs.length) (hy : Zqk ys c) (hk : ys.length = n) (k0 : 0 < n) (hs : xs.length + n ≤ 1000000) (hb : bytes ≤ 1000)
    (hq : ∀ id cs h', XK Rep 4 (.sl id (xs.length + n) cs) (xs ++ ys) → Tp h' e (.sl id (xs.length + n) cs) (xs.length + n) → h.next ≤ h'.next → Zzh (.sl id (xs.length + n) cs) h'.next → (∀ l : Nat, l < h.next → WN d l → hget h'.mem l = hget h.mem l) → UP (.sl id (xs.length + n) cs) d h.next → VR E T k (p (.sl id (xs.length + n) cs) t) h' Q R) : vO E T (Zdv e 4 bytes d (.sl m n c) h) p k t Q R := by
  obtain ⟨id, cs, h', e1, a1, a2, a3, a5, a6⟩ := Zut (m := m) hr ht hy hk k0 hs hb
  rw [e1]; exact hq id cs h' a1 a2 a3 a2.bnd a5 a6
end
theorem ZF {α : Type} {F : α → List D → Prop} {z : Nat} {d : D} {xs : List α} (hr : XK F z d xs) : d.cells = [d] := by
  obtain ⟨cs, r, _, ⟨rfl, rfl⟩ | ⟨id, rfl, _⟩⟩ := hr <;> rfl
theorem Zvg : ∀ (z : Nat) (v : V), SizeOf.sizeOf v < z → ∀ c, Rep v c → YP c c = true
  | 0, v, hz, c, h => absurd hz (Nat.not_lt_zero _)
  | z + 1, .mk k n b l, hz, c, h => by
    obtain ⟨L, rfl, _, cs, r, h4, hd⟩ := h.inv
    have hL : D.same L L = true := by
      rcases hd with ⟨rfl, rfl⟩ | ⟨id, rfl, _⟩
      · rfl
      · have : YP cs.flatten cs.flatten = true := by
          have aux : ∀ (cs : List (List D)), (∀ c ∈ cs, YP c c = true) → YP cs.flatten cs.flatten = true := by
            intro cs
            induction cs with
            | nil => intro _; rfl
            | cons x cs ih =>
              intro hx
              rw [List.flatten_cons]
              exact Zrq (hx x (List.mem_cons_self ..)) (ih fun y hy => hx y (List.mem_cons_of_mem _ hy))
          refine aux cs fun c hc => ?_
          obtain ⟨i, hi, rfl⟩ := List.getElem_of_mem hc
          have hil : i < l.length := by rw [← r.1]; exact hi
          exact Zvg z l[i] (Nat.lt_of_lt_of_le (V.lt (List.getElem_mem hil)) (Nat.le_of_lt_succ hz)) _ (r.2 i _ _ (List.getElem?_eq_getElem hil) (List.getElem?_eq_getElem hi))
        simp only [D.same, Nat.beq_refl, this, Bool.and_self]
    simp only [Up, Zgc, Zgb, hL, Zdq, Bool.and_self]
theorem Zq {d : D} {l : List V} (h : XK Rep 4 d l) : D.same d d = true := Z3u (fun x c hx => Zvg _ x (Nat.lt_succ_self _) c hx) h
theorem Znk {id n : Nat} {cs : List D} : D.same (.sl id n cs) (.sl id n cs) = YP cs cs := by simp only [D.same, Nat.beq_refl, Bool.true_and]
abbrev Zdm : V := .mk 0 0 [] []
abbrev Zsa (n : Nat) : V := .mk 1 n [] []
abbrev Zwa (b : List Nat) : V := .mk 2 0 b []
abbrev Zra (l : List V) : V := .mk 3 0 [] l
abbrev Zyh (l : List V) : V := .mk 4 0 [] l
theorem ZZ {k n : Nat} {b : List Nat} : Rep (.mk k n b []) [.int .i64 (.ofNat k), .int .u64 (.ofNat n), .str b, .v (.slice none 0 0)] := .of (by simp) XK.nil
theorem ZW {k : Nat} {L : D} {l : List V} (hb : l.length ≤ 1000000) (h : XK Rep 4 L l) : Rep (.mk k 0 [] l) [.int .i64 (.ofNat k), .int .u64 (.ofNat 0), .str [], L] := .of hb h
theorem Y1 : Zqk [] [] := rfl
theorem Zp {v : V} {vs : List V} {a b c d : D} {r : List D} (h1 : Rep v [a, b, c, d]) (h2 : Zqk vs r) : Zqk (v :: vs) (a :: b :: c :: d :: r) := ⟨a, b, c, d, r, rfl, h1, h2⟩
def Zrf {α : Type} (F : α → List D → Prop) (z : Nat) (d : D) (xs : List α) : Prop := ∃ cs, Rows F xs cs ∧ (∀ c ∈ cs, c.length = z) ∧ ((xs = [] ∧ d = .v (.slice none 0 0)) ∨ ∃ id, d = .sl id cs.length cs.flatten)
theorem Zrf.len {α : Type} {F : α → List D → Prop} {z : Nat} {d : D} {xs : List α} (hr : Zrf F z d xs) (h : H) : Zgk d h = .ok (.int .i64 (.ofNat xs.length)) h := by
  obtain ⟨cs, r, _, ⟨rfl, rfl⟩ | ⟨id, rfl⟩⟩ := hr
  · rfl
  · rw [← r.1]; rfl
theorem Zp6 {z : Nat} : ∀ {cs : List (List D)} (_ : ∀ c ∈ cs, c.length = z) {m : Nat}, cs.flatten.take (m * z) = (cs.take m).flatten
  | [], _, m => by simp
  | c :: r, h, 0 => by simp
  | c :: r, h, m + 1 => by
    have h4 : c.length = z := h c (List.mem_cons_self ..)
    rw [List.flatten_cons, List.take_succ_cons, List.flatten_cons, ← Zp6 (fun x hx => h x (List.mem_cons_of_mem _ hx)), Nat.succ_mul, Nat.add_comm, List.take_append, h4, List.take_of_length_le (by omega), Nat.add_sub_cancel_left]
theorem Zrf.head {α : Type} {F : α → List D → Prop} {z : Nat} {d : D} {xs : List α} (hr : Zrf F z d xs) {m : Nat} (hm : m ≤ xs.length) : ∃ d', (∀ h, oSl z d (.int .i64 (.ofNat m)) h = .ok d' h) ∧ Zrf F z d' (xs.take m) := by
  obtain ⟨cs, r, hz, hd⟩ := hr
  have hrows : Rows F (xs.take m) (cs.take m) := by
    refine ⟨by simp [r.1], fun i x c h1 h2 => ?_⟩
    have hi : i < m := by
      have := (List.getElem?_eq_some_iff.1 h1).1
      simp at this; omega
    rw [List.getElem?_take_of_lt hi] at h1 h2
    exact r.2 i x c h1 h2
  have hz' : ∀ c ∈ cs.take m, c.length = z := fun c hc => hz c (List.mem_of_mem_take hc)
  rcases hd with ⟨rfl, rfl⟩ | ⟨id, rfl⟩
  · have : m = 0 := by simpa using hm
    subst this
    exact ⟨_, fun h => Zc1, cs.take 0, hrows, hz', .inl ⟨rfl, rfl⟩⟩
  · have hml : m ≤ cs.length := by rw [r.1]; exact hm
    refine ⟨_, fun h => oSl_sl hml, cs.take m, hrows, hz', ?_⟩
    unfold Zyu
    cases hb : Nat.beq m cs.length with
    | true =>
      have := Nat.eq_of_beq_eq_true hb
      subst this
      rw [List.take_length]
      exact .inr ⟨id, rfl⟩
    | false => exact .inr ⟨0, by rw [Zp6 hz, List.length_take, Nat.min_eq_left hml]; rfl⟩
end
section
attribute [local go_sem] Zno Zsw Zzj Zhb Znk
variable {h : H} {Q : D → H → Prop} {R : Uk}
def q12 : ZE := Y5 YI (fun t h => YH ⟨[.cN 4 4], .skip⟩ (act t) h)
 (Z0 (Z1<|fo (Za 31 [(.int .i64 (.ofNat 0)),(.int .u64 (.ofNat 0)),(.str []),(.v (.slice none 0 0))]) (St 4)<|Z2)
 (Z0 (Z1<|mM 0 5<|mK 19 [(Gt 5)] 6<|mK 20 [] 7<|mM 1 8<|mK 25 [(Gt 8)] 9<|fo (Zn 31 3 [(.int .i64 (.ofNat 0)),(.int .u64 (.ofNat 0)),(.str []),(.v (.slice none 0 0)),(.int .i64 (.ofNat 0)),(.int .u64 (.ofNat 0)),(.str []),(.v (.slice none 0 0)),(.int .i64 (.ofNat 0)),(.int .u64 (.ofNat 0)),(.str []),(.v (.slice none 0 0))] [(0,4,(Gt 6)),(4,4,(Gt 7)),(8,4,(Gt 9))]) (St 10)<|mK 18 [(Gt 10)] 11<|fo (Ze 4 (Gt 4) (Gt 11)) p0<|Z2)
 Zb))
def q13 : ZE := Y5 YI (fun t h => YH ⟨[.cN 4 4], .skip⟩ (act t) h)
 (Z0 (Z1<|fo (Za 33 [(.int .i64 (.ofNat 0)),(.int .u64 (.ofNat 0)),(.str []),(.v (.slice none 0 0))]) (St 4)<|Z2)
 (Z0 (Z1<|mM 0 7<|mK 22 [(Gt 7)] 8<|fo (Za 33 [(.int .i64 (.ofNat 0)),(.int .u64 (.ofNat 0)),(.str []),(.v (.slice none 0 0))]) (St 5)<|fo (Ze 4 (Gt 5) (Gt 8)) p0<|Z2)
 (Z0 (Z1<|mM 1 9<|mK 26 [(Gt 9)] 10<|fo (Za 33 [(.int .i64 (.ofNat 0)),(.int .u64 (.ofNat 0)),(.str []),(.v (.slice none 0 0))]) (St 6)<|fo (Ze 4 (Gt 6) (Gt 10)) p0<|Z2)
 (Z0 (Z1<|fo (Zi 4 (Gt 5)) (St 11)<|fo (Zy [(.int .i64 (.ofNat 0)),(.int .u64 (.ofNat 0)),(.str []),(.v (.slice none 0 0))] []) (St 12)<|fo (Zi 4 (Gt 6)) (St 13)<|fo (Zn 33 3 [(.int .i64 (.ofNat 0)),(.int .u64 (.ofNat 0)),(.str []),(.v (.slice none 0 0)),(.int .i64 (.ofNat 0)),(.int .u64 (.ofNat 0)),(.str []),(.v (.slice none 0 0)),(.int .i64 (.ofNat 0)),(.int .u64 (.ofNat 0)),(.str []),(.v (.slice none 0 0))] [(0,4,(Gt 11)),(4,4,(Gt 12)),(8,4,(Gt 13))]) (St 14)<|mK 24 [(Gt 14)] 15<|fo (Ze 4 (Gt 4) (Gt 15)) p0<|Z2)
 Zb))))
def Zlq : ZE := Y5 YI (fun t h => YH ⟨[.cN 2 4], .skip⟩ (act t) h)
 (Z0 (Z1<|fo (Za 31 [(.int .i64 (.ofNat 0)),(.int .u64 (.ofNat 0)),(.str []),(.v (.slice none 0 0))]) (St 2)<|Z2)
 (Z0 (Z0 (Z1<|mM 0 3<|fo (Zd ZX .eql 9 (.tmp 3) (.const (.string ⟨#[]⟩)) (Gt 3) (kS [])) (St 4)<|Z2)
 (Z7 (Gt 4) (Z1<|fo (Yf (kS [1])) (St 0)<|Z2) Z8))
 (Z0 (Z1<|mM 0 5<|mK 25 [(Gt 5)] 6<|fo (Ze 4 (Gt 2) (Gt 6)) p0<|Z2)
 Zb)))
def Zlr : ZE := Y5 YI (fun t h => .ok (Gt 2 t) h)
 (Z0 (Z1<|fo (Yf (kD (.v (.slice none 0 0)))) (St 2)<|Z2)
 (Z0 (Z1<|mM 0 4<|mM 0 5<|fo (u1 Va (Gt 5)) (St 6)<|fo (Zqv .min #[3,3] 3 #[false,true] [(Gt 6),(kI 32)]) (St 7)<|fo (XQ (Gt 4) none (some (Gt 7))) (St 8)<|mM 8 3<|Z2)
 (Z0 (Z1<|mK 19 [(kD (.int .u64 (.ofNat 771)))] 9<|mM 3 10<|mM 3 11<|fo (u1 Va (Gt 11)) (St 12)<|fo (Zd XY .sub 3 (.const (.int .i64 (.ofNat 32))) (.tmp 12) (kI 32) (Gt 12)) (St 13)<|mK 60 [(kS [0]),(Gt 13)] 14<|fo (Zd Y2 .add 9 (.tmp 10) (.tmp 14) (Gt 10) (Gt 14)) (St 15)<|mK 25 [(Gt 15)] 16<|mK 20 [] 17<|mK 25 [(kS [])] 18<|fo (Zn 31 4 [(.int .i64 (.ofNat 0)),(.int .u64 (.ofNat 0)),(.str []),(.v (.slice none 0 0)),(.int .i64 (.ofNat 0)),(.int .u64 (.ofNat 0)),(.str []),(.v (.slice none 0 0)),(.int .i64 (.ofNat 0)),(.int .u64 (.ofNat 0)),(.str []),(.v (.slice none 0 0)),(.int .i64 (.ofNat 0)),(.int .u64 (.ofNat 0)),(.str []),(.v (.slice none 0 0))] [(0,4,(Gt 9)),(4,4,(Gt 16)),(8,4,(Gt 17)),(12,4,(Gt 18))]) (St 19)<|mM 19 2<|Z2)
 Zb)))
theorem vc12 (h20 : T 20 = Zh0) (h19 : T 19 = Zh1) (h25 : T 25 = Zhw) (h21 : T 21 = Zju) (h18 : T 18 = Zjv) (h12 : T 12 = q12) {n : Nat} {s : List Nat} (hq : ∀ h' L, XK Rep 4 L [Zsa n, Zdm, Zwa s] → h.next ≤ h'.next → (∀ l, l < h.next → hget h'.mem l = hget h.mem l) → Q (.agg [.int .i64 (.ofNat 4), .int .u64 (.ofNat 0), .str [], L]) h') : VC E T 12 [.int .u64 (.ofNat n), .str s] h Q R := by
  refine YK h12 ?_
  unfold YI
  repeat' (with_reducible (first | refine ZA ?_ | refine ZB ?_ | refine ZQ ?_ | refine ZP ?_ | refine ZD ?_ | refine Zt ?_ | refine ZC ?_ | refine ZR ?_ | refine ZO ?_ | refine ZG ?_ | refine ZS ?_ | refine Zdb h20 ?_ | refine Zdc h19 ?_ | refine Zda h25 ?_ | refine Zem h21 ?_ ?_ ?_ | refine Zen h18 ?_ ?_ ?_ | simp (maxSteps := 2000000) (disch := first | assumption | omega | (simp only [Zm, Zl, List.length_cons, List.length_nil, List.length_append, List.length_take, List.length_drop]; omega) | fail) only [go_sem, -Int.reduceOfNat, *] | ((first | refine Yh ?_ ?_ | refine ZV ?_ ?_ | refine Yg ?_ ?_ | refine ZT ?_ ?_ | refine ZU ?_ ?_ | refine ZH ?_ ?_) <;> intro _) | (show Q _ _; refine hq _ _ ?_ ?_ ?_) | exact Zq (by assumption) | (refine Yl ?_ (by simp) (by simp)) | (refine Zp ?_ ?_) | exact Y1 | exact ZZ | (refine ZW (by first | omega | simp) ?_) | assumption | exact trivial | (show _ < _; omega) | (show _ ≤ _; omega) | (show ¬ (_ : Nat) = _; omega) | (show (_ : Nat) ≠ _; omega) | (show (_ : Nat) = _; omega) | (intro _; intros) | (refine ⟨_, by assumption, ?_⟩) | refine And.intro ?_ ?_))
theorem vc13 (h22 : T 22 = Zhz) (h26 : T 26 = Zhv) (h23 : T 23 = Zhy) (h24 : T 24 = Zhx) (h13 : T 13 = q13) {n : Nat} {s : List Nat} (hq : ∀ h' L, XK Rep 4 L [Zsa n, Zdm, Zwa s] → h.next ≤ h'.next → (∀ l, l < h.next → hget h'.mem l = hget h.mem l) → Q (.agg [.int .i64 (.ofNat 4), .int .u64 (.ofNat 0), .str [], L]) h') : VC E T 13 [.int .u64 (.ofNat n), .str s] h Q R := by
  refine YK h13 ?_
  unfold YI
  repeat' (with_reducible (first | refine ZA ?_ | refine ZB ?_ | refine ZQ ?_ | refine ZP ?_ | refine ZD ?_ | refine Zt ?_ | refine ZC ?_ | refine ZR ?_ | refine ZO ?_ | refine ZG ?_ | refine ZS ?_ | refine Zud h22 ?_ | refine Zua h26 ?_ | refine Zuc h23 ?_ ?_ ?_ | refine Zub h24 ?_ ?_ ?_ | simp (maxSteps := 2000000) (disch := first | assumption | omega | (simp only [Zm, Zl, List.length_cons, List.length_nil, List.length_append, List.length_take, List.length_drop]; omega) | fail) only [go_sem, -Int.reduceOfNat, *] | ((first | refine Yh ?_ ?_ | refine ZV ?_ ?_ | refine Yg ?_ ?_ | refine ZT ?_ ?_ | refine ZU ?_ ?_ | refine ZH ?_ ?_) <;> intro _) | (show Q _ _; refine hq _ _ ?_ ?_ ?_) | exact Zq (by assumption) | (refine Yl ?_ (by simp) (by simp)) | (refine Zp ?_ ?_) | exact Y1 | exact ZZ | (refine ZW (by first | omega | simp) ?_) | assumption | exact trivial | (show _ < _; omega) | (show _ ≤ _; omega) | (show ¬ (_ : Nat) = _; omega) | (show (_ : Nat) ≠ _; omega) | (show (_ : Nat) = _; omega) | (intro _; intros) | (refine ⟨_, by assumption, ?_⟩) | refine And.intro ?_ ?_))
def Zf9 (s : List Nat) : List Nat := if s = [] then [1] else s
theorem Z6z (h20 : T 20 = Zh0) (h19 : T 19 = Zh1) (h25 : T 25 = Zhw) (h39 : T 39 = Zlq) {s : List Nat} (hq : ∀ h', h.next ≤ h'.next → (∀ l, l < h.next → hget h'.mem l = hget h.mem l) → Q (.agg [.int .i64 (.ofNat 2), .int .u64 (.ofNat 0), .str (Zf9 s), .v (.slice none 0 0)]) h') : VC E T 39 [.str s] h Q R := by
  unfold Zf9 at hq
  by_cases hs : s = []
  all_goals
    simp only [hs, if_true, if_false] at hq
    try subst hs
    refine YK h39 ?_
    unfold YI
    repeat' (with_reducible (first | refine ZA ?_ | refine ZB ?_ | refine ZQ ?_ | refine ZP ?_ | refine ZD ?_ | refine Zt ?_ | refine ZC ?_ | refine ZR ?_ | refine ZO ?_ | refine ZG ?_ | refine ZS ?_ | refine Zdb h20 ?_ | refine Zdc h19 ?_ | refine Zda h25 ?_ | simp (maxSteps := 2000000) (disch := first | assumption | omega | (simp only [Zm, Zl, List.length_cons, List.length_nil, List.length_append, List.length_take, List.length_drop]; omega) | fail) only [go_sem, -Int.reduceOfNat, *] | ((first | refine Yh ?_ ?_ | refine ZV ?_ ?_ | refine Yg ?_ ?_ | refine ZT ?_ ?_ | refine ZU ?_ ?_ | refine ZH ?_ ?_) <;> intro _) | (show Q _ _; refine hq _ ?_ ?_) | assumption | exact trivial | (show _ < _; omega) | (show _ ≤ _; omega) | (show ¬ (_ : Nat) = _; omega) | (show (_ : Nat) ≠ _; omega) | (show (_ : Nat) = _; omega) | (intro _; intros) | (refine ⟨_, by assumption, ?_⟩) | refine And.intro ?_ ?_))
def Zkc (s : List Nat) : Nat → List Nat
  | 0 => []
  | n + 1 => s ++ Zkc s n
def Y4 : List D → H → O D := fun args h => match args with
  | [.str s, .int .i64 (.ofNat c)] => bif Nat.ble (s.length * c) 140737488355328 && Nat.ble c 9223372036854775807 then .ok (.str (Zkc s c)) h else .fail "repeat"
  | _ => .fail "repeat"
theorem vcRep (hT : T 60 = Wv Y4) {c : Nat} (hc : c ≤ 32) (hq : Q (.str (Zkc [0] c)) h) : VC E T 60 [.str [0], .int .i64 (.ofNat c)] h Q R := Zxj hT (by
  have e : (Nat.ble ([0].length * c) 140737488355328 && Nat.ble c 9223372036854775807) = true := by
    rw [Nat.ble_eq_true_of_le (by simp; omega), Nat.ble_eq_true_of_le (by omega)]; rfl
  show VO Q R (bif (Nat.ble ([0].length * c) 140737488355328 && Nat.ble c 9223372036854775807) then .ok (.str (Zkc [0] c)) h else .fail "repeat")
  rw [e]
  exact hq)
theorem Zo4 : ∀ n : Nat, (Zkc [0] n).length = n
  | 0 => rfl
  | n + 1 => by rw [Zkc, List.length_append, Zo4 n]; simp; omega
def Zvu (s : List Nat) : List Nat := s.take (min s.length 32) ++ Zkc [0] (32 - min s.length 32)
abbrev Zgt (s : List Nat) : List V := [Zsa 771, Zwa (Zvu s), Zdm, Zwa []]
theorem Z60 (h20 : T 20 = Zh0) (h19 : T 19 = Zh1) (h25 : T 25 = Zhw) (h38 : T 38 = Zlr) (hr : T 60 = Wv Y4) {s : List Nat} (hs : s.length ≤ 400) (hq : ∀ h' id cs, XK Rep 4 (.sl id 4 cs) (Zgt s) → hget h'.mem id = some (.tip 4 31) → h.next ≤ id → id < h'.next → h.next ≤ h'.next → (∀ l, l < h.next → hget h'.mem l = hget h.mem l) → Q (.sl id 4 cs) h') : VC E T 38 [.str s] h Q R := by
  simp only [Zgt, Zvu] at hq
  have hm : min s.length 32 ≤ s.length := Nat.min_le_left _ _
  have hm2 : min s.length 32 ≤ 32 := Nat.min_le_right _ _
  have hln : (s.take (min s.length 32)).length = min s.length 32 := by rw [List.length_take]; omega
  have hrl : (Zkc [0] (32 - min s.length 32)).length = 32 - min s.length 32 := Zo4 _
  refine YK h38 ?_
  unfold YI
  repeat' (with_reducible (first | refine ZA ?_ | refine ZB ?_ | refine ZQ ?_ | refine ZP ?_ | refine ZD ?_ | refine Zt ?_ | refine ZC ?_ | refine ZR ?_ | refine ZO ?_ | refine ZG ?_ | refine ZS ?_ | refine Zdb h20 ?_ | refine Zdc h19 ?_ | refine Zda h25 ?_ | refine vcRep hr ?_ ?_ | simp (maxSteps := 2000000) (disch := first | assumption | omega | (simp only [Zm, Zl, List.length_cons, List.length_nil, List.length_append, List.length_take, List.length_drop]; omega) | fail) only [go_sem, -Int.reduceOfNat, *, Zdw, Zba] | ((first | refine Yh ?_ ?_ | refine ZV ?_ ?_ | refine Yg ?_ ?_ | refine ZT ?_ ?_ | refine ZU ?_ ?_ | refine ZH ?_ ?_) <;> intro _) | (show Q _ _; refine hq _ _ _ ?_ ?_ ?_ ?_ ?_ ?_) | exact Zq (by assumption) | (refine Yl ?_ (by simp) (by simp)) | (refine Zp ?_ ?_) | exact Y1 | exact ZZ | (refine ZW (by first | omega | simp) ?_) | assumption | exact trivial | (show _ < _; omega) | (show _ ≤ _; omega) | (show ¬ (_ : Nat) = _; omega) | (show (_ : Nat) ≠ _; omega) | (show (_ : Nat) = _; omega) | (intro _; intros) | (refine ⟨_, by assumption, ?_⟩) | refine And.intro ?_ ?_))
end
end Run
end
end Go.Abs
