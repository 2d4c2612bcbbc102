/- A record: walks of the program. -/
import Derived.Test.YthifolidfjpdkaaGreatDoorReQ
import Derived.Test.YthifolidfjpdkaaGreatDoorReI
set_option linter.unusedVariables false
set_option linter.unusedSimpArgs false
namespace Go.Abs
noncomputable section
namespace Run
variable {E : Env} {T : Nat → Yd}
set_option maxHeartbeats 4000000
set_option maxRecDepth 100000
attribute [local go_sem] Zdv UJ Zdx UH UQ UG UM Zdu UL UK Zdt Wa US W7 UN V1 W9 YL V3 Zbi UU V0 UO UR UT V4 X8 V7 UP W8 W6 UI V5 V6 Zdz Zd0 UW Zaf Zab Wc Wb YM Zaa UZ Zdy Va Zai Zac Zag Vd Zad UX Zae UV V9 UY Vb Zah V8 Vc Zd1 Zak Zd5 Zaj Zd2 Zi0 Zi1 Ziy Ziz Zd3 Zd4 Za1 Za0 Za2 Za7 Za6 Za8 Zek Zej VA VB Vz Zd9 Vx Vy Vw Vt Zaw Wk Vq Vr Wm Wn Zaz Zay Zax Wj Xo W1 Zao Zeb Zeg Zpv Xr Xq Vo Zau Wo Vp Yu Y5 Xt YS WK patch YQ YR Xn Xm Wy Wx X1 X2 W5 VG Wu Xu YV Xp Wr XP Xs YO Yf YT mem_cons Zei Zea Xk Option.map_some Option.map_none Vv Wp Ws Wq Zav Vu Wl Vs YP X4 XA Xv XB Wz Xw Xz Xx YW Xy Vl Wh Vn Vi Zas Vj Vm Vk Wi Wg YD VT WH Zfx Zcy Zc3 Zb3 Zeo Zsi Xg XU VH WQ YN Xl YU Yv Yn X7 ZZ X5 List.drop_succ_cons List.drop_zero List.drop_nil List.take_succ_cons List.take_zero List.take_nil List.length_cons List.length_nil List.length_append List.cons_append List.nil_append Nat.reduceAdd Nat.reduceEqDiff Nat.reduceLeDiff Nat.reduceLT List.cons.injEq reduceCtorEq eq_self not_true_eq_false not_false_eq_true and_false false_and true_or or_true decide_true decide_false Bool.and_self Bool.and_true Bool.true_and Bool.true_or Bool.or_true Bool.false_or Bool.or_false Bool.false_and Bool.and_false Bool.not_true Bool.not_false cond_true cond_false true_and and_true Zex Zef Zen reduceIte Nat.add_zero Nat.zero_add Nat.add_sub_cancel Nat.reduceMul Nat.reduceSub Nat.reduceBEq List.map_cons List.map_nil Z1 Z0 Yw ZG Zr Zv Wd Zd6 XQ Yo Y0 Wf We XH XG and_assoc exists_and_left D.str.injEq Nat.lt_irrefl Nat.not_lt_zero true_implies false_implies implies_true forall_const ge_iff_le gt_iff_lt Nat.sub_zero List.append_assoc Option.some.injEq AObj.cells.injEq D.int.injEq D.ptr.injEq Int.ofNat.injEq exists_eq_left' D.v.injEq Value.bool.injEq D.agg.injEq Nat.mul_one
section
variable {h : H} {Q : D → H → Prop} {R : Y1}
section
variable {F : XF} {crc : Zkz} {ds de dt : D} {inp : List Nat} {pr ps p e0 n : Nat} {env : Ev} {fp : D} {kind : Nat → Ev → Nat → Nat → Nat → RO V}
def q65 : Yd := Uz Zs (fun t h => .ok (Gt 2 t) h)
 (Z2 (Z7<|fo (ZC (kD (.v (.slice none 0 0)))) (St 2)<|Z8)
 (Z2 (Z2 (Z7<|mM 0 6<|fo (Zq YD .eql 23 (.tmp 6) (.const (.pointer none)) (Gt 6) (kD (.v (.pointer none)))) (St 7)<|Z8)
 (Zt (Gt 7) (Z2 (Z7<|fo (ZC (kD (.v (.slice none 0 0)))) (St 2)<|Z8)
 ZF) ZJ))
 (Z2 (Z7<|fo (ZC (kD (.v (.slice none 0 0)))) (St 3)<|Z8)
 (Z2 (Z2 (Z7<|mM 0 8<|mN 8 9<|mF 0 9 10<|mL 10 11<|fo (u1 YI (Gt 11)) (St 12)<|fo (ZC (kI 0)) (St 13)<|Z8)
 (ZM 0 (Xi (Z2 (Z7<|fo (Zq WH .lss 3 (.tmp 13) (.tmp 12) (Gt 13) (Gt 12)) (St 14)<|Z8)
 (Z2 (Zt (Gt 14) ZJ (WS 0))
 (Z2 (ZM 1 (Z2 (Z7<|fo (u2 (Ym 2) (Gt 11) (Gt 13)) (St 15)<|fo (Yy 2 (Gt 15)) (St 16)<|fo (ZN 131 [(.str []),(.int .u64 (.ofNat 0))]) (St 5)<|fo (ZV 2 (Gt 5) (Gt 16)) p0<|Z8)
 (Z7<|mM 3 17<|mF 0 5 18<|mL 18 19<|mF 1 5 20<|mL 20 21<|fo (YA [(.str []),(.int .u64 (.ofNat 0))] [(0,1,(Gt 19)),(1,1,(Gt 21))]) (St 22)<|fo (XK 217 1 [(.str []),(.int .u64 (.ofNat 0))] [(0,2,(Gt 22))]) (St 23)<|fo (u2 (Zbl 217 2 24) (Gt 17) (Gt 23)) (St 24)<|mM 24 3<|Z8)))
 (Z7<|fo (Zq YJ .add 3 (.tmp 13) (.const (.int .i64 (.ofNat 1))) (Gt 13) (kI 1)) (St 25)<|mM 25 13<|Z8)))))))
 (Z2 (Z7<|mM 3 26<|mM 26 2<|Z8)
 ZF)))))
def q55 : Yd := Uz Zs (fun t h => VU ⟨[.cN 6 4], .skip⟩ (act t) h)
 (Z2 (Z7<|fo (UA 100 (Gt 1)) (St 4)<|fo (ZN 39 [(.int .i64 (.ofNat 0)),(.int .u64 (.ofNat 0)),(.str []),(.v (.slice none 0 0))]) (St 6)<|Z8)
 (Z2 (Z7<|mM 0 18<|mK 85 [(Gt 18)] 19<|Z8)
 (Z2 (Z7<|mM 0 20<|mM 0 21<|mN 21 22<|mF 0 22 23<|mL 23 24<|mK 65 [(Gt 24)] 25<|fo (YA [(.v (.pointer none)),(.v (.slice none 0 0))] [(0,1,(Gt 20)),(1,1,(Gt 25))]) (St 26)<|fo (UA 190 (Gt 26)) (St 27)<|mM 27 7<|Z8)
 (Z2 (Z2 (Z7<|mF 1 4 28<|mL 28 29<|fo (u1 YI (Gt 29)) (St 30)<|fo (ZC (kI 0)) (St 31)<|Z8)
 (ZM 0 (Xi (Z2 (Z7<|fo (Zq WH .lss 3 (.tmp 31) (.tmp 30) (Gt 31) (Gt 30)) (St 32)<|Z8)
 (Z2 (Zt (Gt 32) ZJ (WS 0))
 (Z2 (ZM 1 (Z2 (Z7<|mM 31 33<|fo (u2 (Ym 1) (Gt 29) (Gt 31)) (St 34)<|mL 34 35<|mM 33 8<|mM 35 9<|Z8)
 (YY<|Zu (ZC (Gt 7)) (St 36)<|Zu (ZC (Gt 7)) (St 37)<|Zu (u1 Zo (Gt 37)) (St 38)<|Zu (u1 (ZL 1) (Gt 38)) (St 39)<|Xj 4 [0] 1 (Gt 39) (ZO (Gt 39)) (St 40)<|Zu (ZC (Gt 9)) (St 41)<|Zu (ZC (Gt 2)) (St 42)<|Zu (ZC (Gt 8)) (St 43)<|Zu (u2 (Ym 1) (Gt 42) (Gt 43)) (St 44)<|Xj 9 [0,1,2,3,4,5] 1 (Gt 44) (ZO (Gt 44)) (St 45)<|Zim 10 [0] (ZW 86 [(Gt 40),(Gt 41),(Gt 45)]) (St 46)<|Zu (u1 Zo (Gt 36)) (St 47)<|Zu (u1 (ZL 1) (Gt 47)) (St 48)<|Zfw 13 [] (ZV 1 (Gt 48) (Gt 46)) p0<|YZ)))
 (Z7<|fo (Zq YJ .add 3 (.tmp 31) (.const (.int .i64 (.ofNat 1))) (Gt 31) (kI 1)) (St 49)<|mM 49 31<|Z8)))))))
 (Z2 (Z7<|fo (Zm1) (St 50)<|mM 50 10<|Z8)
 (Z2 (Z7<|fo (ZC (kD (.v (.slice none 0 0)))) (St 11)<|Z8)
 (Z2 (Z2 (Z7<|mF 2 4 51<|mL 51 52<|fo (u1 YI (Gt 52)) (St 53)<|fo (ZC (kI 0)) (St 54)<|Z8)
 (ZM 2 (Xi (Z2 (Z7<|fo (Zq WH .lss 3 (.tmp 54) (.tmp 53) (Gt 54) (Gt 53)) (St 55)<|Z8)
 (Z2 (Zt (Gt 55) ZJ (WS 2))
 (Z2 (ZM 3 (Z2 (Z7<|fo (u2 (Ym 9) (Gt 52) (Gt 54)) (St 56)<|fo (Yy 9 (Gt 56)) (St 57)<|fo (ZN 104 [(.str []),(.int .i64 (.ofNat 0)),(.int .i64 (.ofNat 0)),(.str []),(.str []),(.int .i64 (.ofNat 0)),(.int .i64 (.ofNat 0)),(.v (.bool false)),(.v (.slice none 0 0))]) (St 13)<|fo (ZV 9 (Gt 13) (Gt 57)) p0<|Z8)
 (Z2 (Z7<|mF 8 13 58<|mL 58 59<|fo (u1 YI (Gt 59)) (St 60)<|fo (Zq Zcy .gtr 3 (.tmp 60) (.const (.int .i64 (.ofNat 0))) (Gt 60) (kI 0)) (St 61)<|Z8)
 (Zt (Gt 61) (Z7<|mM 11 62<|mM 7 63<|fo (Yy 9 (Gt 13)) (St 64)<|mK 87 [(Gt 63),(Gt 64)] 65<|fo (u2 (Zbl 39 4 56) (Gt 62) (Gt 65)) (St 66)<|mM 66 11<|Z8) (Z7<|mM 11 67<|mM 7 68<|fo (Yy 9 (Gt 13)) (St 69)<|mM 10 70<|mK 88 [(Gt 68),(Gt 69),(Gt 70)] 71<|fo (XK 39 1 [(.int .i64 (.ofNat 0)),(.int .u64 (.ofNat 0)),(.str []),(.v (.slice none 0 0))] [(0,4,(Gt 71))]) (St 72)<|fo (u2 (Zbl 39 4 56) (Gt 67) (Gt 72)) (St 73)<|mM 73 11<|Z8)))))
 (Z7<|fo (Zq YJ .add 3 (.tmp 54) (.const (.int .i64 (.ofNat 1))) (Gt 54) (kI 1)) (St 74)<|mM 74 54<|Z8)))))))
 (Z2 (Z2 (Z7<|mF 2 4 75<|mL 75 76<|fo (u1 YI (Gt 76)) (St 77)<|fo (ZC (kI 0)) (St 78)<|Z8)
 (ZM 4 (Xi (Z2 (Z7<|fo (Zq WH .lss 3 (.tmp 78) (.tmp 77) (Gt 78) (Gt 77)) (St 79)<|Z8)
 (Z2 (Zt (Gt 79) ZJ (WS 4))
 (Z2 (ZM 5 (Z2 (Z7<|fo (u2 (Ym 9) (Gt 76) (Gt 78)) (St 80)<|fo (Yy 9 (Gt 80)) (St 81)<|fo (ZN 104 [(.str []),(.int .i64 (.ofNat 0)),(.int .i64 (.ofNat 0)),(.str []),(.str []),(.int .i64 (.ofNat 0)),(.int .i64 (.ofNat 0)),(.v (.bool false)),(.v (.slice none 0 0))]) (St 15)<|fo (ZV 9 (Gt 15) (Gt 81)) p0<|Z8)
 (Z2 (YY<|Zu (ZC (Gt 10)) (St 82)<|Zu (u1 (ZL 0) (Gt 15)) (St 83)<|Xj 2 [0] 1 (Gt 83) (ZO (Gt 83)) (St 84)<|Zu (u2 (fun x k => Zdk 1 (.agg [(.int .i64 (.ofNat 0)),(.int .i64 (.ofNat 0)),(.int .i64 (.ofNat 0)),(.int .u64 (.ofNat 0)),(.str []),(.v (.slice none 0 0))]) x k false) (Gt 82) (Gt 84)) (St 85)<|Zu (ZC (Gt 10)) (St 86)<|Zu (u1 (ZL 3) (Gt 15)) (St 87)<|Xj 6 [0,1,2,3,4] 1 (Gt 87) (ZO (Gt 87)) (St 88)<|Zu (u2 (fun x k => Zdk 1 (.agg [(.int .i64 (.ofNat 0)),(.int .i64 (.ofNat 0)),(.int .i64 (.ofNat 0)),(.int .u64 (.ofNat 0)),(.str []),(.v (.slice none 0 0))]) x k false) (Gt 86) (Gt 88)) (St 89)<|Zu (ZN 196 [(.int .i64 (.ofNat 0)),(.int .i64 (.ofNat 0)),(.int .i64 (.ofNat 0)),(.int .u64 (.ofNat 0)),(.str []),(.v (.slice none 0 0))]) (St 16)<|Zu (ZN 196 [(.int .i64 (.ofNat 0)),(.int .i64 (.ofNat 0)),(.int .i64 (.ofNat 0)),(.int .u64 (.ofNat 0)),(.str []),(.v (.slice none 0 0))]) (St 17)<|Zfw 10 [4,5,6,7] (ZV 6 (Gt 16) (Gt 85)) p0<|Zfw 11 [] (ZV 6 (Gt 17) (Gt 89)) p0<|YZ)
 (Z2 (Z7<|mF 2 15 90<|mL 90 91<|Z8)
 (ZM 6 (Z2 (Z7<|fo (mQ 101 91 1) (St 93)<|mM 93 92<|Z8)
 (Zt (Gt 92) (Z7<|mM 7 94<|mF 2 16 95<|mF 1 95 96<|mL 96 97<|mF 1 17 98<|mL 98 99<|mF 0 17 100<|mL 100 101<|fo (Zq Zgh .sub 3 (.tmp 99) (.tmp 101) (Gt 99) (Gt 101)) (St 102)<|fo (WT .u64 (Gt 102)) (St 103)<|fo (Zq YD .eql 36 (.tmp 97) (.tmp 103) (Gt 97) (Gt 103)) (St 104)<|fo (Yy 6 (Gt 16)) (St 105)<|mK 89 [(Gt 94),(Gt 104),(Gt 105),(kI 9)] 106<|Z8) (Z2 (Z7<|fo (mQ 101 91 2) (St 108)<|mM 108 107<|Z8)
 (Zt (Gt 107) (Z7<|mM 7 109<|mF 2 16 110<|mF 1 110 111<|mL 111 112<|mF 2 17 113<|mF 3 113 114<|mL 114 115<|fo (u1 YI (Gt 115)) (St 116)<|fo (WT .u64 (Gt 116)) (St 117)<|fo (Zq YD .eql 36 (.tmp 112) (.tmp 117) (Gt 112) (Gt 117)) (St 118)<|fo (Yy 6 (Gt 16)) (St 119)<|mK 89 [(Gt 109),(Gt 118),(Gt 119),(kI 9)] 120<|Z8) ZJ)))))))))
 (Z7<|fo (Zq YJ .add 3 (.tmp 78) (.const (.int .i64 (.ofNat 1))) (Gt 78) (kI 1)) (St 121)<|mM 121 78<|Z8)))))))
 (Z2 (Z7<|mM 11 122<|mK 16 [(Gt 122)] 123<|fo (ZV 4 (Gt 6) (Gt 123)) p0<|Z8)
 ZF)))))))))
theorem vc65 (h65 : T 65 = q65) (nl : ∀ cs h ox oy, Zfu E YD .eql 23 ox oy (.ep cs) (.v (.pointer none)) h = .ok (.v (.bool false)) h) (hq : Q (.v (.slice none 0 0)) h) : VC E T 65 [Y7 ds de dt] h Q R := by
  refine Zp h65 ?_
  unfold Zs
  repeat' (with_reducible (first | refine Za ?_ | refine Zb ?_ | refine Zk ?_ | refine Zj ?_ | refine Zd ?_ | refine Z3 ?_ | refine Zc ?_ | refine Zl ?_ | refine Z9 ?_ | refine Z4 ?_ | refine Ze ?_ | (refine Zll ?_ ?_ ?_; (focus (simp only [go_sem, -Int.reduceOfNat]; done)); (focus (simp only [go_sem, -Int.reduceOfNat]; done))) | simp (maxSteps := 2000000) (disch := first | assumption | omega | (simp only [Z1, Z0, List.length_cons, List.length_nil, List.length_append, List.length_take, List.length_drop]; omega) | fail) only [go_sem, -Int.reduceOfNat, *] | ((first | refine Zn ?_ ?_ | refine Zh ?_ ?_ | refine Zm ?_ ?_ | refine Zf ?_ ?_ | refine Zg ?_ ?_ | refine Z5 ?_ ?_) <;> intro _ <;> (try (exfalso; omega))) | (show Q _ _; exact hq) | assumption | exact trivial | (show _ < _; omega) | (show _ ≤ _; omega) | (show ¬ (_ : Nat) = _; omega) | (show (_ : Nat) ≠ _; omega) | (show (_ : Nat) = _; omega) | (intro _; intros) | (refine ⟨_, by assumption, ?_⟩) | refine And.intro ?_ ?_))
theorem Zul {y : XI} {env : Ev} {al : Al} {v : V} {env2 : Ev} {al2 : Al} {q m : Nat} (h : VM F crc inp kind y e0 env al p n = .ok (v, env2, al2) q m) : env2.length ≤ env.length + 1 := by
  unfold VM at h
  split at h
  · cases h
  cases hv : kind y.ty env p e0 n with
  | oof => rw [hv] at h; cases h
  | err a b => rw [hv] at h; cases h
  | ok v' q' m' =>
    rw [hv] at h
    simp only [RO.bind] at h
    have hl : (if Zfp F y.ty = true then env ++ [(y.nm, v'.n)] else env).length ≤ env.length + 1 := by split <;> simp
    generalize (if Zfp F y.ty = true then env ++ [(y.nm, v'.n)] else env) = env' at h hl
    split at h
    · split at h
      · split at h
        · split at h
          · split at h
            · split at h
              · cases h
              · cases h; exact hl
            · cases h
          · cases h; exact hl
        · cases h
      · cases h
    · split at h
      · split at h
        · split at h
          · split at h
            · cases h
            · cases h; exact hl
          · cases h
        · cases h; exact hl
      · cases h
theorem Zyi {h h' : H} {ty : TypeId} {d : D} {n b pr : Nat} (ht : Tp h ty d n) (hf : Fr d (b + 4)) (hb : pr < b) (hn : h.next ≤ h'.next) (hx : ∀ x, x < h.next → x ≠ pr → x ≠ b + 2 → x ≠ b + 3 → hget h'.mem x = hget h.mem x) : Tp h' ty d n := ht.mono hn fun l hl h2 => hx l h2 (by have := hf l hl; omega) (by have := hf l hl; omega) (by have := hf l hl; omega)
theorem Zyh {h h' : H} {ty : TypeId} {d : D} {n b pr : Nat} {o o' : AObj} (ht : Tp h ty d n) (hf : Fr d (b + 4)) (hb : pr < b) (hn : h.next + 1 ≤ h'.next) (hx : ∀ x, x < h.next + 1 → x ≠ pr → x ≠ b + 2 → x ≠ b + 3 → hget h'.mem x = hget (YX (Ua h o) h.next o').mem x) : Tp h' ty d n := Zyi ht hf hb (by omega) fun x h1 h2 h3 h4 => by
  rw [hx x (by omega) h2 h3 h4, Zv (by omega), ZG (by omega)]
theorem Zi2 {y : XI} {al : Al} {r : List XI} : UE al (y :: r) = (if (y.der = 1 ∧ (XY y.nm al).2.2.n ≠ (XY y.a al).2.1 - (XY y.a al).1) ∨ (y.der = 2 ∧ (XY y.nm al).2.2.n ≠ (XY y.a al).2.2.l.length) then some (XY y.nm al).1 else UE al r) := rfl
theorem Zwp {y : XI} {al : Al} {r : List XI} (h : y.der = 0) : UE al (y :: r) = UE al r := by
  rw [Zi2, if_neg]
  rintro (⟨c, _⟩ | ⟨c, _⟩) <;> omega
theorem Z17 {y : XI} {al : Al} {r : List XI} (h : y.der = 1) (he : (XY y.nm al).2.2.n = (XY y.a al).2.1 - (XY y.a al).1) : UE al (y :: r) = UE al r := by
  rw [Zi2, if_neg]
  rintro (⟨_, c⟩ | ⟨c, _⟩)
  · exact c he
  · omega
theorem Zyk {y : XI} {al : Al} {r : List XI} (h : y.der = 1) (he : ¬ (XY y.nm al).2.2.n = (XY y.a al).2.1 - (XY y.a al).1) : UE al (y :: r) = some (XY y.nm al).1 := by
  rw [Zi2, if_pos (.inl ⟨h, he⟩)]
theorem alR_nil : Ztf [] [] := rfl
theorem Z1n {L : Nat} : Zg7 L [] := fun _ h => by cases h
def ItOk (F : XF) (y : XI) : Prop := y.der ≤ 1 ∧ (y.wh = .negSucc 0 ∨ ∃ a, y.wh = .ofNat a) ∧ ∃ t, F.ts[y.ty]? = some t
abbrev IF1 (h : H) (pr : Nat) (fp : D) (inp : List Nat) (e0 : Nat) (sc : List D) (di : D) (n1 : Nat) (fs : List XI → Ev → Al → List V → Nat → Nat → RO (List V × Al)) (is : List XI) (X : RO (List V × Al)) (m : Nat) (t1 : Tr D) (h1 : H) : Prop :=
  h.next + 4 ≤ h1.next ∧ (∀ x, x < h.next → x ≠ pr → hget h1.mem x = hget h.mem x) ∧ hget h1.mem h.next = some (.cells 100 sc) ∧ hget h1.mem (h.next + 1) = some (.cells 39 [.int .i64 (.ofNat 0), .int .u64 (.ofNat 0), .str [], .v (.slice none 0 0)]) ∧ Gt 0 t1 = .ptr pr 0 ∧ Gt 4 t1 = .ptr h.next 0 ∧ Gt 6 t1 = .ptr (h.next + 1) 0 ∧ Gt 7 t1 = .ptr (h.next + 2) 0 ∧ Gt 10 t1 = .map (h.next + 3) ∧ Gt 52 t1 = di ∧ Gt 53 t1 = .int .i64 (.ofNat n1) ∧ ∃ d, Gt 11 t1 = d ∧ ∃ j, Gt 54 t1 = .int .i64 (.ofNat j) ∧ j + m = n1 ∧ ∃ env al es out p' n', UC Rep 4 d out ∧ Tp h1 39 d out.length ∧ Fr d (h.next + 4) ∧ out.length = j ∧ env.length ≤ j ∧ Ztf al es ∧ hget h1.mem (h.next + 3) = some (.map es) ∧ hget h1.mem (h.next + 2) = some (Zfz pr env) ∧ hget h1.mem pr = some (RC fp inp p' e0 n') ∧ p' ≤ e0 ∧ n' ≤ 1048576 ∧ Zg7 inp.length al ∧ fs (is.drop j) env al out p' n' = X
abbrev IF2 (h : H) (pr : Nat) (fp : D) (inp : List Nat) (e0 p' n' : Nat) (d : D) (sc : List D) (di : D) (n1 : Nat) (al : Al) (es : List (D × D)) (is : List XI) (Y : Option Nat) (m : Nat) (t1 : Tr D) (h1 : H) : Prop :=
  h.next + 4 ≤ h1.next ∧ (∀ x, x < h.next → x ≠ pr → hget h1.mem x = hget h.mem x) ∧ hget h1.mem h.next = some (.cells 100 sc) ∧ hget h1.mem (h.next + 1) = some (.cells 39 [.int .i64 (.ofNat 0), .int .u64 (.ofNat 0), .str [], .v (.slice none 0 0)]) ∧ Gt 4 t1 = .ptr h.next 0 ∧ Gt 6 t1 = .ptr (h.next + 1) 0 ∧ Gt 7 t1 = .ptr (h.next + 2) 0 ∧ Gt 10 t1 = .map (h.next + 3) ∧ Gt 11 t1 = d ∧ Gt 76 t1 = di ∧ Gt 77 t1 = .int .i64 (.ofNat n1) ∧ ∃ j, Gt 78 t1 = .int .i64 (.ofNat j) ∧ j + m = n1 ∧ hget h1.mem (h.next + 3) = some (.map es) ∧ hget h1.mem pr = some (RC fp inp p' e0 n') ∧ UE al (is.drop j) = Y
theorem vc55 (hT : RT E T F ds de dt) (h88 : T 88 = q88) (h89 : T 89 = q89) (h86 : T 86 = Xb Zcd) (h65 : T 65 = q65) (h55 : T 55 = q55) (ih : VK E T inp ds de dt kind) (hke : Zya inp kind) (hL : inp.length ≤ 1000000) {nm : List Nat} {is : List XI} (hok : ∀ y ∈ is, ItOk F y) (hil : is.length ≤ 500) {di : D} (hk : UC XIR 9 di is) (hr : hget h.mem pr = some (RC (Y7 ds de dt) inp p e0 n)) (np : pr < h.next) (hp : p ≤ e0) (he : e0 ≤ inp.length) (hn : n ≤ 1048576) (hq : KQ (XZ F crc inp kind ⟨nm, is⟩ p e0 n) (Y7 ds de dt) inp pr e0 h Q R) : VC E T 55 [.ptr pr 0, .agg [.str nm, .v (.slice none 0 0), di], .v (.slice none 0 0)] h Q R := by
  have hdc := Zy hk
  have hdo := ZP hk
  have hln := hk.len
  have hVR := hT.h16
  have hCO : ∀ {h : H} {Q : D → H → Prop} {R : Y1}, Q (.v (.slice none 0 0)) h → VC E T 65 [Y7 ds de dt] h Q R := fun a => vc65 h65 hT.et.nl a
  unfold XZ WY at hq
  by_cases hn1 : n ≥ 1048576
  · rw [if_pos hn1] at hq
    simp only [RO.bind, ZU] at hq
    have hO : Zgq E T ds de dt inp pr e0 n := Ze9 hT (show n = 1048576 by omega)
    clear hT hk
    refine Zp h55 ?_
    unfold Zs
    repeat' (with_reducible (first | refine Za ?_ | refine Zb ?_ | refine Zk ?_ | refine Zj ?_ | refine Zd ?_ | refine Z3 ?_ | refine Zc ?_ | refine Zl ?_ | refine Z9 ?_ | refine Z4 ?_ | refine Ze ?_ | refine hO (p := p) ?_ ?_ | simp (maxSteps := 2000000) (disch := first | assumption | omega | (simp only [Z1, Z0, List.length_cons, List.length_nil, List.length_append, List.length_take, List.length_drop]; omega) | fail) only [go_sem, -Int.reduceOfNat, *] | ((first | refine Zn ?_ ?_ | refine Zh ?_ ?_ | refine Zm ?_ ?_ | refine Zf ?_ ?_ | refine Zg ?_ ?_ | refine Z5 ?_ ?_) <;> intro _ <;> (try (exfalso; omega))) | (refine hq _ ?_ ?_) | (rintro h1 n1 f1) | assumption | exact trivial | (show _ < _; omega) | (show _ ≤ _; omega) | (show ¬ (_ : Nat) = _; omega) | (show (_ : Nat) ≠ _; omega) | (show (_ : Nat) = _; omega) | (intro _; intros) | (refine ⟨_, by assumption, ?_⟩) | refine And.intro ?_ ?_))
  rw [if_neg hn1] at hq
  simp only [RO.bind] at hq
  have hO : Zkr E T ds de dt inp pr e0 n := Zhq hT (show n < 1048576 by omega)
  have hFD : ∀ {y : XI} {env : Ev} {al : Al} {es : List (D × D)} {p n ps pm : Nat} {h : H} {Q : D → H → Prop} {R : Y1}, ItOk F y → env.length < 500 → p ≤ e0 → n ≤ 1048576 → Ztf al es → ps ≠ pr → pm ≠ pr → pm ≠ ps → hget h.mem pr = some (RC (Y7 ds de dt) inp p e0 n) → hget h.mem ps = some (Zfz pr env) → hget h.mem pm = some (.map es) → pr < h.next → ps < h.next → pm < h.next → FQ (VM F crc inp kind y e0 env al p n) (Y7 ds de dt) inp pr ps pm e0 h Q R → VC E T 88 [.ptr ps 0, .agg (itC y), .map pm] h Q R := fun ok a1 a2 a3 a4 a5 a6 a7 b1 b2 b3 c1 c2 c3 a8 => by
    obtain ⟨o1, o2, t, o3⟩ := ok
    exact vc88 hT h88 h89 h86 ih (by omega) o2 o3 ⟨b1, b2, c1, c2, a5, a2, he, a3, by omega⟩ (by omega) b3 a4 c3 a6 a7 a8
  have hMU : ∀ {z : Bool} {ps pp qq er : Nat} {a b c d : D} {h : H} {Q : D → H → Prop} {R : Y1}, a.one = true → b.one = true → c.one = true → d.one = true → (z = true → ∀ h', h.next ≤ h'.next → (∀ l, l < h.next → hget h'.mem l = hget h.mem l) → Q (.tup []) h') → (z = false → ∀ h', h.next ≤ h'.next → (∀ l, l < h.next → hget h'.mem l = hget h.mem l) → R (Zfv pp er) h') → VC E T 89 [.ptr ps 0, .v (.bool z), .agg [.int .i64 (.ofNat pp), .int .i64 (.ofNat qq), a, b, c, d], .int .i64 (.ofNat er)] h Q R := fun o1 o2 o3 o4 a1 a2 => vc89 h89 ⟨o1, o2, o3, o4⟩ a1 a2
  have hel := fun j x hx => Zbj (i := j) (x := x) hk (by decide) hx
  have hfl := fun y env al p n (h1 : p ≤ e0) (h2 : n ≤ 1048576) => Zj0 (F := F) (crc := crc) hke y e0 env al p n h1 he h2
  have hfa := fun (y : XI) (env : Ev) (al : Al) (p n : Nat) (h1 : p ≤ e0) (h2 : n ≤ 1048576) (h3 : Zg7 inp.length al) (x : V × Ev × Al) (q m : Nat) (h4 : VM F crc inp kind y e0 env al p n = .ok x q m) => Zoy (F := F) (crc := crc) hke h1 he h2 h3 h4
  clear hT ih hk hke
  generalize hX : Yh F crc inp kind e0 is [] [] [] p (n + 1) = X at hq
  have hn2 : n + 1 ≤ 1048576 := by omega
  refine Zp h55 ?_
  unfold Zs
  repeat' (with_reducible (first | refine Za ?_ | refine Zb ?_ | refine Zk ?_ | refine Zj ?_ | refine Zd ?_ | refine Z3 ?_ | refine Zc ?_ | refine Zl ?_ | refine Z9 ?_ | refine Z4 ?_ | refine Ze ?_ | refine hO (p := p) ?_ ?_ | refine hCO ?_ | (refine Zll ?_ ?_ ?_; (focus (simp only [go_sem, -Int.reduceOfNat]; done)); (focus (simp only [go_sem, -Int.reduceOfNat]; done))) | simp (maxSteps := 2000000) (disch := first | assumption | (show Zeh _ _; exact WR (by assumption) (by omega)) | omega | (simp only [Z1, Z0, List.length_cons, List.length_nil, List.length_append, List.length_take, List.length_drop]; omega) | fail) only [go_sem, -Int.reduceOfNat, *, List.drop_zero, Zqc] | ((first | refine Zn ?_ ?_ | refine Zh ?_ ?_ | refine Zm ?_ ?_ | refine Zf ?_ ?_ | refine Zg ?_ ?_ | refine Z5 ?_ ?_) <;> intro _ <;> (try (exfalso; omega))) | (refine WW (IF1 h pr (Y7 ds de dt) inp e0 [.str nm, .v (.slice none 0 0), di] di is.length (Yh F crc inp kind e0) is X) (n := is.length) ?_ ?_) | (rintro h1 n1 f1) | (refine ⟨[], [], [], [], UC.nil, Tp.nil, Zui, by simp, by simp, alR_nil, by simp, by simp, Z1n, hX⟩) | assumption | exact trivial | (show _ < _; omega) | (show _ ≤ _; omega) | (show ¬ (_ : Nat) = _; omega) | (show (_ : Nat) ≠ _; omega) | (show (_ : Nat) = _; omega) | (intro _; intros) | (refine ⟨_, by assumption, ?_⟩) | refine And.intro ?_ ?_))
  all_goals
    clear hO hX
    rintro m t1 h1 ⟨gn, gf, m3, m4, g0, g4, g6, g7, g10, g52, g53, d, g11, j, g54, gj, env, al, es, out, p', n', sl, tp, fr, ol, ev, ar, mm, ms, mr, hp', hn', ao, gX⟩
    by_cases hlt : j < is.length
    · obtain ⟨y, hy⟩ : ∃ y, is[j]? = some y := ⟨_, List.getElem?_eq_getElem hlt⟩
      obtain ⟨c, r, hc, hz, hix⟩ := hel j y hy
      unfold XIR at hc
      subst hc
      have hd : is.drop j = y :: is.drop (j + 1) := by rw [List.drop_eq_getElem_cons hlt]; rw [List.getElem?_eq_getElem hlt] at hy; rw [Option.some.inj hy]
      have hoy := hok y (List.mem_of_getElem? hy)
      rw [hd, Yh] at gX
      have hle := hfl y env al p' n' hp' hn'
      cases hXX : VM F crc inp kind y e0 env al p' n' with
      | oof => rw [hXX] at gX; simp only [RO.bind] at gX; rw [← gX] at hq; exact hq.elim
      | err a2 b2 =>
        rw [hXX] at gX
        simp only [RO.bind] at gX
        rw [← gX] at hq
        simp only [ZU] at hq
        clear gX hle hfl hfa hel hz hd hy
        repeat' (with_reducible (first | refine Za ?_ | refine Zb ?_ | refine Zk ?_ | refine Zj ?_ | refine Zd ?_ | refine Z3 ?_ | refine Zc ?_ | refine Zl ?_ | refine Z9 ?_ | refine Z4 ?_ | refine Ze ?_ | refine hFD (env := env) (al := al) (es := es) (p := p') (n := n') (pm := h.next + 3) hoy (by omega) hp' hn' ar ?_ ?_ ?_ ?_ ?_ ?_ ?_ ?_ ?_ ?_ | simp (maxSteps := 2000000) (disch := first | assumption | (show Zeh _ _; exact WR (by assumption) (by omega)) | omega | (simp only [Z1, Z0, List.length_cons, List.length_nil, List.length_append, List.length_take, List.length_drop]; omega) | fail) only [go_sem, -Int.reduceOfNat, *, hXX, Zqo] | ((first | refine Zn ?_ ?_ | refine Zh ?_ ?_ | refine Zm ?_ ?_ | refine Zf ?_ ?_ | refine Zg ?_ ?_ | refine Z5 ?_ ?_) <;> intro _ <;> (try (exfalso; omega))) | (refine hq _ ?_ ?_) | (rintro h2 n2 f2) | assumption | exact trivial | (show _ < _; omega) | (show _ ≤ _; omega) | (show ¬ (_ : Nat) = _; omega) | (show (_ : Nat) ≠ _; omega) | (show (_ : Nat) = _; omega) | (intro _; intros) | (refine ⟨_, by assumption, ?_⟩) | refine And.intro ?_ ?_))
      | ok x p2 n2 =>
        obtain ⟨v, env2, al2⟩ := x
        have ao2 := hfa y env al p' n' hp' hn' ao _ _ _ hXX
        have evl : env2.length ≤ env.length + 1 := Zul hXX
        rw [hXX] at gX hle
        simp only [RO.bind] at gX
        obtain ⟨hle1, hle2, hle3⟩ := hle
        clear hq hfl hfa hel hz hd hy
        repeat' (with_reducible (first | refine Za ?_ | refine Zb ?_ | refine Zk ?_ | refine Zj ?_ | refine Zd ?_ | refine Z3 ?_ | refine Zc ?_ | refine Zl ?_ | refine Z9 ?_ | refine Z4 ?_ | refine Ze ?_ | refine hFD (env := env) (al := al) (es := es) (p := p') (n := n') (pm := h.next + 3) hoy (by omega) hp' hn' ar ?_ ?_ ?_ ?_ ?_ ?_ ?_ ?_ ?_ ?_ | refine Zpc (F := Rep) (xs := out) (x := v) sl (Zpe tp2) hrep hrep.four (by omega) on2 (by omega) (by omega) ?_ | simp (maxSteps := 2000000) (disch := first | assumption | (show Zeh _ _; exact WR (by assumption) (by omega)) | omega | (simp only [Z1, Z0, List.length_cons, List.length_nil, List.length_append, List.length_take, List.length_drop]; omega) | fail) only [go_sem, -Int.reduceOfNat, *, hXX, Zte] | ((first | refine Zn ?_ ?_ | refine Zh ?_ ?_ | refine Zm ?_ ?_ | refine Zf ?_ ?_ | refine Zg ?_ ?_ | refine Z5 ?_ ?_) <;> intro _ <;> (try (exfalso; omega))) | (refine ⟨env2, al2, es2, out ++ [v], ?_⟩) | (refine ⟨m - 1, by omega, ?_⟩) | (rintro h2 a b c d2 es2 hrep nn ff mr2 ms2 mm2 ar2; obtain ⟨oa, ob, oc, od⟩ := ZX hrep; have tp2 := Zyh tp fr np nn ff; have on2 := hrep.one) | (rintro id2 cs2 h3 sl2 tp3 nn3 bn3 ff3 if3; have fr3 := Zle if3 fr (by omega)) | assumption | exact trivial | (show _ < _; omega) | (show _ ≤ _; omega) | (show ¬ (_ : Nat) = _; omega) | (show (_ : Nat) ≠ _; omega) | (show (_ : Nat) = _; omega) | (intro _; intros) | (refine ⟨_, by assumption, ?_⟩) | refine And.intro ?_ ?_))
    · obtain rfl : j = is.length := by omega
      rw [List.drop_length, Yh] at gX
      rw [← gX] at hq
      simp only [] at hq
      have hdc2 := Zy sl
      have hdo2 := ZP sl
      clear gX hfl hfa hFD
      generalize hY : UE al is = Y at hq
      repeat' (with_reducible (first | refine Za ?_ | refine Zb ?_ | refine Zk ?_ | refine Zj ?_ | refine Zd ?_ | refine Z3 ?_ | refine Zc ?_ | refine Zl ?_ | refine Z9 ?_ | refine Z4 ?_ | refine Ze ?_ | simp (maxSteps := 2000000) (disch := first | assumption | (show Zeh _ _; exact WR (by assumption) (by omega)) | omega | (simp only [Z1, Z0, List.length_cons, List.length_nil, List.length_append, List.length_take, List.length_drop]; omega) | fail) only [go_sem, -Int.reduceOfNat, *, List.drop_zero] | ((first | refine Zn ?_ ?_ | refine Zh ?_ ?_ | refine Zm ?_ ?_ | refine Zf ?_ ?_ | refine Zg ?_ ?_ | refine Z5 ?_ ?_) <;> intro _ <;> (try (exfalso; omega))) | (refine WW (IF2 h pr (Y7 ds de dt) inp e0 p' n' d [.str nm, .v (.slice none 0 0), di] di is.length al es is Y) (n := is.length) ?_ ?_) | assumption | exact trivial | (show _ < _; omega) | (show _ ≤ _; omega) | (show ¬ (_ : Nat) = _; omega) | (show (_ : Nat) ≠ _; omega) | (show (_ : Nat) = _; omega) | (intro _; intros) | (refine ⟨_, by assumption, ?_⟩) | refine And.intro ?_ ?_))
      all_goals
        clear hY
        rintro m t2 h2 ⟨kn, kf, mk3, mk4, k4, k6, k7, k10, k11, k76, k77, j, k78, kj, mkm, mkr, kY⟩
        by_cases hlt : j < is.length
        · obtain ⟨y, hy⟩ : ∃ y, is[j]? = some y := ⟨_, List.getElem?_eq_getElem hlt⟩
          obtain ⟨c, r, hc, hz, hix⟩ := hel j y hy
          unfold XIR at hc
          subst hc
          have hd : is.drop j = y :: is.drop (j + 1) := by rw [List.drop_eq_getElem_cons hlt]; rw [List.getElem?_eq_getElem hlt] at hy; rw [Option.some.inj hy]
          have hoy := (hok y (List.mem_of_getElem? hy)).1
          rw [hd] at kY
          have tsk := Zwp (y := y) (al := al) (r := is.drop (j + 1))
          have tok := Z17 (y := y) (al := al) (r := is.drop (j + 1))
          have tbd := Zyk (y := y) (al := al) (r := is.drop (j + 1))
          generalize UE al (y :: is.drop (j + 1)) = TT at kY tsk tok tbd
          obtain ⟨a1, b1, c1, d1, rp1, lk1⟩ := Ztf.look (s := y.nm) ar
          obtain ⟨a2, b2, c2, d2, rp2, lk2⟩ := Ztf.look (s := y.a) ar
          have ag1 := Zg7.get (s := y.nm) ao
          have ag2 := Zg7.get (s := y.a) ao
          clear hel hz hd hy
          obtain ⟨o1, o2, o3, o4⟩ := ZX rp1
          obtain ⟨u1, u2, u3, u4⟩ := ZX rp2
          generalize XY y.nm al = O1 at *
          generalize XY y.a al = O2 at *
          obtain ⟨f1, t1', ⟨vk, vn, vb, vl⟩⟩ := O1
          obtain ⟨f2, t2', V2⟩ := O2
          obtain ⟨L1, hcc, _, hsl1⟩ := rp1.inv
          simp only [List.cons.injEq, and_true] at hcc
          obtain ⟨rfl, rfl, rfl, rfl⟩ := hcc
          have sd1 := Zcl hsl1
          simp only [V.n] at ag1 ag2 lk1 lk2 tok tbd
          by_cases d1 : y.der = 1
          · by_cases ev1 : vn = t2' - f2
            · rw [tok d1 ev1] at kY
              clear tsk tok tbd
              clear hq
              repeat' (with_reducible (first | refine Za ?_ | refine Zb ?_ | refine Zk ?_ | refine Zj ?_ | refine Zd ?_ | refine Z3 ?_ | refine Zc ?_ | refine Zl ?_ | refine Z9 ?_ | refine Z4 ?_ | refine Ze ?_ | refine hMU ?_ ?_ ?_ ?_ ?_ ?_ | simp (maxSteps := 2000000) (disch := first | assumption | (show Zeh _ _; exact WR (by assumption) (by omega)) | omega | (simp only [Z1, Z0, List.length_cons, List.length_nil, List.length_append, List.length_take, List.length_drop]; omega) | fail) only [go_sem, -Int.reduceOfNat, *, d1, ev1, Zlm, Zjr, ZZ, XD, decide_true] | ((first | refine Zn ?_ ?_ | refine Zh ?_ ?_ | refine Zm ?_ ?_ | refine Zf ?_ ?_ | refine Zg ?_ ?_ | refine Z5 ?_ ?_) <;> intro _ <;> (try (exfalso; omega))) | (exfalso; omega) | (refine ⟨m - 1, by omega, ?_⟩) | (intro uu) | assumption | exact trivial | (show _ < _; omega) | (show _ ≤ _; omega) | (show ¬ (_ : Nat) = _; omega) | (show (_ : Nat) ≠ _; omega) | (show (_ : Nat) = _; omega) | (intro _; intros) | (refine ⟨_, by assumption, ?_⟩) | refine And.intro ?_ ?_))
            · rw [tbd d1 ev1] at kY
              clear tsk tok tbd
              rw [← kY] at hq
              simp only [ZU] at hq
              repeat' (with_reducible (first | refine Za ?_ | refine Zb ?_ | refine Zk ?_ | refine Zj ?_ | refine Zd ?_ | refine Z3 ?_ | refine Zc ?_ | refine Zl ?_ | refine Z9 ?_ | refine Z4 ?_ | refine Ze ?_ | refine hMU ?_ ?_ ?_ ?_ ?_ ?_ | simp (maxSteps := 2000000) (disch := first | assumption | (show Zeh _ _; exact WR (by assumption) (by omega)) | omega | (simp only [Z1, Z0, List.length_cons, List.length_nil, List.length_append, List.length_take, List.length_drop]; omega) | fail) only [go_sem, -Int.reduceOfNat, *, d1, ev1, Zlm, Zjr, ZZ, XD, decide_false] | ((first | refine Zn ?_ ?_ | refine Zh ?_ ?_ | refine Zm ?_ ?_ | refine Zf ?_ ?_ | refine Zg ?_ ?_ | refine Z5 ?_ ?_) <;> intro _ <;> (try (exfalso; omega))) | (exfalso; omega) | (refine hq _ ?_ ?_) | (intro uu) | assumption | exact trivial | (show _ < _; omega) | (show _ ≤ _; omega) | (show ¬ (_ : Nat) = _; omega) | (show (_ : Nat) ≠ _; omega) | (show (_ : Nat) = _; omega) | (intro _; intros) | (refine ⟨_, by assumption, ?_⟩) | refine And.intro ?_ ?_))
          · have d0 : y.der = 0 := by omega
            rw [tsk d0] at kY
            clear tsk tok tbd
            clear hq hMU
            repeat' (with_reducible (first | refine Za ?_ | refine Zb ?_ | refine Zk ?_ | refine Zj ?_ | refine Zd ?_ | refine Z3 ?_ | refine Zc ?_ | refine Zl ?_ | refine Z9 ?_ | refine Z4 ?_ | refine Ze ?_ | simp (maxSteps := 2000000) (disch := first | assumption | (show Zeh _ _; exact WR (by assumption) (by omega)) | omega | (simp only [Z1, Z0, List.length_cons, List.length_nil, List.length_append, List.length_take, List.length_drop]; omega) | fail) only [go_sem, -Int.reduceOfNat, *, d0, Zlm, Zjr] | ((first | refine Zn ?_ ?_ | refine Zh ?_ ?_ | refine Zm ?_ ?_ | refine Zf ?_ ?_ | refine Zg ?_ ?_ | refine Z5 ?_ ?_) <;> intro _ <;> (try (exfalso; omega))) | (refine ⟨m - 1, by omega, ?_⟩) | assumption | exact trivial | (show _ < _; omega) | (show _ ≤ _; omega) | (show ¬ (_ : Nat) = _; omega) | (show (_ : Nat) ≠ _; omega) | (show (_ : Nat) = _; omega) | (intro _; intros) | (refine ⟨_, by assumption, ?_⟩) | refine And.intro ?_ ?_))
        · obtain rfl : j = is.length := by omega
          rw [List.drop_length, UE] at kY
          rw [← kY] at hq
          simp only [Yx] at hq
          clear hel hMU
          repeat' (with_reducible (first | refine Za ?_ | refine Zb ?_ | refine Zk ?_ | refine Zj ?_ | refine Zd ?_ | refine Z3 ?_ | refine Zc ?_ | refine Zl ?_ | refine Z9 ?_ | refine Z4 ?_ | refine Ze ?_ | refine vc16 hVR hdc2 hdo2 ?_ | simp (maxSteps := 2000000) (disch := first | assumption | (show Zeh _ _; exact WR (by assumption) (by omega)) | omega | (simp only [Z1, Z0, List.length_cons, List.length_nil, List.length_append, List.length_take, List.length_drop]; omega) | fail) only [go_sem, -Int.reduceOfNat, *] | ((first | refine Zn ?_ ?_ | refine Zh ?_ ?_ | refine Zm ?_ ?_ | refine Zf ?_ ?_ | refine Zg ?_ ?_ | refine Z5 ?_ ?_) <;> intro _ <;> (try (exfalso; omega))) | (show Q _ _; refine hq _ _ _ _ _ (Zrn (by omega) sl) ?_ ?_ ?_) | (rintro h3 n3 f3) | assumption | exact trivial | (show _ < _; omega) | (show _ ≤ _; omega) | (show ¬ (_ : Nat) = _; omega) | (show (_ : Nat) ≠ _; omega) | (show (_ : Nat) = _; omega) | (intro _; intros) | (refine ⟨_, by assumption, ?_⟩) | refine And.intro ?_ ?_))
end
end
section
variable {h : H} {Q : D → H → Prop} {R : Y1}
section
variable {F : XF} {crc : Zkz} {ds de dt : D} {inp : List Nat} {pr ps p e0 n : Nat} {env : Ev} {fp : D} {kind : Nat → Ev → Nat → Nat → Nat → RO V}
def q179 : Yd := Uz Zs (fun t h => VU ⟨[.cN 4 4], .skip⟩ (act t) h)
 (Z2 (Z7<|fo (UA 109 (Gt 1)) (St 3)<|fo (ZN 39 [(.int .i64 (.ofNat 0)),(.int .u64 (.ofNat 0)),(.str []),(.v (.slice none 0 0))]) (St 4)<|Z8)
 (Z2 (Z7<|fo (ZC (kD (.v (.slice none 0 0)))) (St 5)<|Z8)
 (Z2 (Z2 (Z7<|mF 4 3 10<|mL 10 11<|fo (u1 YI (Gt 11)) (St 12)<|fo (ZC (kI 0)) (St 13)<|Z8)
 (ZM 0 (Xi (Z2 (Z7<|fo (Zq WH .lss 3 (.tmp 13) (.tmp 12) (Gt 13) (Gt 12)) (St 14)<|Z8)
 (Z2 (Zt (Gt 14) ZJ (WS 0))
 (Z2 (ZM 1 (Z2 (Z7<|fo (u2 (Ym 1) (Gt 11) (Gt 13)) (St 15)<|mL 15 16<|mM 16 7<|Z8)
 (Z7<|mM 5 17<|mM 0 18<|mM 7 19<|mK 125 [(Gt 18),(Gt 19)] 20<|fo (XK 36 1 [(.int .u64 (.ofNat 0))] [(0,1,(Gt 20))]) (St 21)<|fo (u2 (Zbl 36 1 8) (Gt 17) (Gt 21)) (St 22)<|mM 22 5<|Z8)))
 (Z7<|fo (Zq YJ .add 3 (.tmp 13) (.const (.int .i64 (.ofNat 1))) (Gt 13) (kI 1)) (St 23)<|mM 23 13<|Z8)))))))
 (Z2 (Z2 (Z7<|mM 0 24<|mN 24 25<|mF 0 25 26<|mL 26 27<|mN 27 28<|mF 0 28 29<|mL 29 30<|mN 30 31<|mF 1 31 32<|mL 32 33<|fo (u1 YI (Gt 33)) (St 34)<|fo (ZC (kI 0)) (St 35)<|Z8)
 (ZM 2 (Xi (Z2 (Z7<|fo (Zq WH .lss 3 (.tmp 35) (.tmp 34) (Gt 35) (Gt 34)) (St 36)<|Z8)
 (Z2 (Zt (Gt 36) ZJ (WS 2))
 (Z2 (ZM 3 (Z2 (Z7<|fo (u2 (Ym 3) (Gt 33) (Gt 35)) (St 37)<|fo (Yy 3 (Gt 37)) (St 38)<|fo (ZN 100 [(.str []),(.v (.slice none 0 0)),(.v (.slice none 0 0))]) (St 9)<|fo (ZV 3 (Gt 9) (Gt 38)) p0<|Z8)
 (Z2 (Z7<|mF 0 9 39<|mL 39 40<|mF 3 3 41<|mL 41 42<|fo (Zq YD .eql 9 (.tmp 40) (.tmp 42) (Gt 40) (Gt 42)) (St 43)<|Z8)
 (Zt (Gt 43) (Z2 (YY<|Zu (ZC (Gt 0)) (St 44)<|Zu (u1 Zo (Gt 44)) (St 45)<|Zu (u1 (ZL 0) (Gt 45)) (St 46)<|Xj 3 [] 1 (Gt 46) (ZO (Gt 46)) (St 47)<|Xj 4 [0,1,2,3] 3 (Gt 9) (Yy 3 (Gt 9)) (St 48)<|Zu (ZC (Gt 5)) (St 49)<|Zim 6 [] (ZW 55 [(Gt 47),(Gt 48),(Gt 49)]) (St 50)<|Zfw 7 [] (ZV 4 (Gt 4) (Gt 50)) p0<|YZ)
 ZF) ZJ))))
 (Z7<|fo (Zq YJ .add 3 (.tmp 35) (.const (.int .i64 (.ofNat 1))) (Gt 35) (kI 1)) (St 51)<|mM 51 35<|Z8)))))))
 (Z2 (Z7<|fo (YA [(.int .i64 (.ofNat 0)),(.int .u64 (.ofNat 0)),(.str []),(.v (.slice none 0 0))] []) (St 52)<|fo (ZV 4 (Gt 4) (Gt 52)) p0<|Z8)
 ZF)))))
abbrev IRf (h : H) (ps : Nat) (ds : D) (nm : List Nat) (tc : List D) (ss : List XS) (s : XS) (m : Nat) (t1 : Tr D) (h1 : H) : Prop :=
  h.next + 2 ≤ h1.next ∧ (∀ x, x < h.next → hget h1.mem x = hget h.mem x) ∧ hget h1.mem h.next = some (.cells 109 tc) ∧ hget h1.mem (h.next + 1) = some (.cells 39 [.int .i64 (.ofNat 0), .int .u64 (.ofNat 0), .str [], .v (.slice none 0 0)]) ∧ Gt 0 t1 = .ptr ps 0 ∧ Gt 3 t1 = .ptr h.next 0 ∧ Gt 4 t1 = .ptr (h.next + 1) 0 ∧ Gt 5 t1 = .v (.slice none 0 0) ∧ Gt 33 t1 = ds ∧ Gt 34 t1 = .int .i64 (.ofNat ss.length) ∧ ∃ j, Gt 35 t1 = .int .i64 (.ofNat j) ∧ j + m = ss.length ∧ Zig nm (ss.drop j) = some s
theorem vc179 (hT : RT E T F ds de dt) (h179 : T 179 = q179) (hsl : F.ss.length ≤ 1000000) {size : Nat} {lit : Bool} {nm : List Nat} {ex inn : Int} {cs : List XC} {dk : D} (hk : UC Zuz 2 dk cs) (at_ : At_ inp pr ps p e0 n env (Y7 ds de dt) h) {s : XS} (hnm : Zig nm F.ss = some s)
    (hrec : ∀ {di : D} {h : H} {Q : D → H → Prop} {R : Y1}, s ∈ F.ss → UC XIR 9 di s.is → hget h.mem pr = some (RC (Y7 ds de dt) inp p e0 n) → pr < h.next → KQ (XZ F crc inp kind s p e0 n) (Y7 ds de dt) inp pr e0 h Q R → VC E T 55 [.ptr pr 0, .agg [.str s.nm, .v (.slice none 0 0), di], .v (.slice none 0 0)] h Q R)
    (hq : KQ (XZ F crc inp kind s p e0 n) (Y7 ds de dt) inp pr e0 h Q R) : VC E T 179 [.ptr ps 0, .agg [.int .i64 (.ofNat 10), .int .i64 (.ofNat size), .v (.bool lit), .str nm, .v (.slice none 0 0), .int .i64 ex, .int .i64 inn, dk]] h Q R := by
  have hdc := Zy hk
  have hdo := ZP hk
  have hsc := Zy hT.rowS
  have hso := ZP hT.rowS
  have hln := hT.rowS.len
  have hel := fun j x hx => Zbj (i := j) (x := x) hT.rowS (by decide) hx
  obtain ⟨hr, hs, np, ns, ne, hp, he, hn, hl⟩ := at_
  clear hT hk
  generalize XZ F crc inp kind s p e0 n = X at *
  refine Zp h179 ?_
  unfold Zs
  repeat' (with_reducible (first | refine Za ?_ | refine Zb ?_ | refine Zk ?_ | refine Zj ?_ | refine Zd ?_ | refine Z3 ?_ | refine Zc ?_ | refine Zl ?_ | refine Z9 ?_ | refine Z4 ?_ | refine Ze ?_ | (refine Zll ?_ ?_ ?_; (focus (simp only [go_sem, -Int.reduceOfNat]; done)); (focus (simp only [go_sem, -Int.reduceOfNat]; done))) | simp (maxSteps := 2000000) (disch := first | assumption | omega | (simp only [Z1, Z0, List.length_cons, List.length_nil, List.length_append, List.length_take, List.length_drop]; omega) | fail) only [go_sem, -Int.reduceOfNat, *, List.drop_zero] | ((first | refine Zn ?_ ?_ | refine Zh ?_ ?_ | refine Zm ?_ ?_ | refine Zf ?_ ?_ | refine Zg ?_ ?_ | refine Z5 ?_ ?_) <;> intro _ <;> (try (exfalso; omega))) | (refine WW (IRf h ps ds nm [.int .i64 (.ofNat 10), .int .i64 (.ofNat size), .v (.bool lit), .str nm, .v (.slice none 0 0), .int .i64 ex, .int .i64 inn, dk] F.ss s) (n := F.ss.length) ?_ ?_) | assumption | exact trivial | (show _ < _; omega) | (show _ ≤ _; omega) | (show ¬ (_ : Nat) = _; omega) | (show (_ : Nat) ≠ _; omega) | (show (_ : Nat) = _; omega) | (intro _; intros) | (refine ⟨_, by assumption, ?_⟩) | refine And.intro ?_ ?_))
  all_goals
    clear hnm
    rintro m t1 h1 ⟨gn, gf, m3, m4, g0, g3, g4, g5, g33, g34, j, g35, gj, gc⟩
    by_cases hlt : j < F.ss.length
    · obtain ⟨x, hx⟩ : ∃ x, F.ss[j]? = some x := ⟨_, List.getElem?_eq_getElem hlt⟩
      obtain ⟨c, r, hc, hz, hix⟩ := hel j x hx
      obtain ⟨di, rfl, hdi⟩ := hc
      have hdic := Zy hdi
      have hdio := ZP hdi
      have hd : F.ss.drop j = x :: F.ss.drop (j + 1) := by rw [List.drop_eq_getElem_cons hlt]; rw [List.getElem?_eq_getElem hlt] at hx; rw [Option.some.inj hx]
      rw [hd, Zig] at gc
      by_cases e : x.nm = nm
      · rw [if_pos e] at gc
        obtain rfl := Option.some.inj gc
        have hRC : ∀ {h : H} {Q : D → H → Prop} {R : Y1}, hget h.mem pr = some (RC (Y7 ds de dt) inp p e0 n) → pr < h.next → KQ X (Y7 ds de dt) inp pr e0 h Q R → VC E T 55 [.ptr pr 0, .agg [.str nm, .v (.slice none 0 0), di], .v (.slice none 0 0)] h Q R := fun a1 a2 a3 => by
          have := hrec (List.mem_of_getElem? hx) hdi a1 a2 a3
          rw [e] at this
          exact this
        have e2 : decide (x.nm = nm) = true := decide_eq_true e
        clear hrec hel hz hx hd gc hdi
        cases X with
        | oof => exact hq.elim
        | ok v p' n' =>
          rw [Yx] at hq
          repeat' (with_reducible (first | refine Za ?_ | refine Zb ?_ | refine Zk ?_ | refine Zj ?_ | refine Zd ?_ | refine Z3 ?_ | refine Zc ?_ | refine Zl ?_ | refine Z9 ?_ | refine Z4 ?_ | refine Ze ?_ | refine hRC ?_ ?_ ?_ | simp (maxSteps := 2000000) (disch := first | assumption | omega | (simp only [Z1, Z0, List.length_cons, List.length_nil, List.length_append, List.length_take, List.length_drop]; omega) | fail) only [go_sem, -Int.reduceOfNat, *, Yx] | ((first | refine Zn ?_ ?_ | refine Zh ?_ ?_ | refine Zm ?_ ?_ | refine Zf ?_ ?_ | refine Zg ?_ ?_ | refine Z5 ?_ ?_) <;> intro _ <;> (try (exfalso; omega))) | (show Q _ _; refine hq _ _ _ _ _ hrep ?_ ?_ ?_) | (rintro h1 a b c d hrep n1 f1 m1; obtain ⟨oa, ob, oc, od⟩ := ZX hrep) | assumption | exact trivial | (show _ < _; omega) | (show _ ≤ _; omega) | (show ¬ (_ : Nat) = _; omega) | (show (_ : Nat) ≠ _; omega) | (show (_ : Nat) = _; omega) | (intro _; intros) | (refine ⟨_, by assumption, ?_⟩) | refine And.intro ?_ ?_))
        | err p' e' =>
          rw [ZU] at hq
          repeat' (with_reducible (first | refine Za ?_ | refine Zb ?_ | refine Zk ?_ | refine Zj ?_ | refine Zd ?_ | refine Z3 ?_ | refine Zc ?_ | refine Zl ?_ | refine Z9 ?_ | refine Z4 ?_ | refine Ze ?_ | refine hRC ?_ ?_ ?_ | simp (maxSteps := 2000000) (disch := first | assumption | omega | (simp only [Z1, Z0, List.length_cons, List.length_nil, List.length_append, List.length_take, List.length_drop]; omega) | fail) only [go_sem, -Int.reduceOfNat, *, ZU] | ((first | refine Zn ?_ ?_ | refine Zh ?_ ?_ | refine Zm ?_ ?_ | refine Zf ?_ ?_ | refine Zg ?_ ?_ | refine Z5 ?_ ?_) <;> intro _ <;> (try (exfalso; omega))) | (refine hq _ ?_ ?_) | (rintro h1 n1 f1) | assumption | exact trivial | (show _ < _; omega) | (show _ ≤ _; omega) | (show ¬ (_ : Nat) = _; omega) | (show (_ : Nat) ≠ _; omega) | (show (_ : Nat) = _; omega) | (intro _; intros) | (refine ⟨_, by assumption, ?_⟩) | refine And.intro ?_ ?_))
      · rw [if_neg e] at gc
        clear hrec hq hel hz hx hd hdi
        repeat' (with_reducible (first | refine Za ?_ | refine Zb ?_ | refine Zk ?_ | refine Zj ?_ | refine Zd ?_ | refine Z3 ?_ | refine Zc ?_ | refine Zl ?_ | refine Z9 ?_ | refine Z4 ?_ | refine Ze ?_ | simp (maxSteps := 2000000) (disch := first | assumption | omega | (simp only [Z1, Z0, List.length_cons, List.length_nil, List.length_append, List.length_take, List.length_drop]; omega) | fail) only [go_sem, -Int.reduceOfNat, *] | ((first | refine Zn ?_ ?_ | refine Zh ?_ ?_ | refine Zm ?_ ?_ | refine Zf ?_ ?_ | refine Zg ?_ ?_ | refine Z5 ?_ ?_) <;> intro _ <;> (try (exfalso; omega))) | (refine ⟨m - 1, by omega, ?_⟩) | assumption | exact trivial | (show _ < _; omega) | (show _ ≤ _; omega) | (show ¬ (_ : Nat) = _; omega) | (show (_ : Nat) ≠ _; omega) | (show (_ : Nat) = _; omega) | (intro _; intros) | (refine ⟨_, by assumption, ?_⟩) | refine And.intro ?_ ?_))
    · rw [List.drop_eq_nil_of_le (by omega), Zig] at gc
      cases gc
end
end
section
variable {h : H} {Q : D → H → Prop} {R : Y1}
structure TyOk (F : XF) (t : XT') : Prop where
  k : t.k = 0 ∨ t.k = 1 ∨ t.k = 2 ∨ t.k = 3 ∨ t.k = 5 ∨ t.k = 6 ∨ t.k = 8 ∨ t.k = 9 ∨ t.k = 10 ∨ t.k = 11
  ex : t.k = 1 ∨ t.k = 2 ∨ t.k = 3 ∨ t.k = 5 ∨ t.k = 8 ∨ t.k = 9 → ∃ i, t.ex = .ofNat i
  inn : t.k = 5 ∨ t.k = 6 ∨ t.k = 8 → ∃ w, t.inn = .ofNat w
  cs : t.cs.length ≤ 1000000
  nm : t.k = 10 → ∃ s, Zig t.nm F.ss = some s
structure FOk (F : XF) : Prop where
  ty : ∀ t ∈ F.ts, TyOk F t
  it : ∀ s ∈ F.ss, s.is.length ≤ 500 ∧ ∀ y ∈ s.is, ItOk F y
  ss : F.ss.length ≤ 1000000
structure RT2 (E : Env) (T : Nat → Yd) : Prop where
  h177 : T 177 = q177
  h173 : T 173 = q173
  h174 : T 174 = q174
  h175 : T 175 = q175
  h179 : T 179 = q179
  h88 : T 88 = q88
  h89 : T 89 = q89
  h65 : T 65 = q65
  h55 : T 55 = q55
  h86 : T 86 = Xb Zcd
  h228 : T 228 = Xb Zbm
section
variable {F : XF} {crc : Zkz} {ds de dt : D} {inp : List Nat} {pr ps p e0 n : Nat} {env : Ev} {fp : D} {kind : Nat → Ev → Nat → Nat → Nat → RO V}
theorem vcRec (hT : RT E T F ds de dt) (h2 : RT2 E T) (ih : VK E T inp ds de dt kind) (hke : Zya inp kind) (hF : FOk F) (hL : inp.length ≤ 1000000) {s : XS} (hs : s ∈ F.ss) {di : D} (hk : UC XIR 9 di s.is) (hr : hget h.mem pr = some (RC (Y7 ds de dt) inp p e0 n)) (np : pr < h.next) (hp : p ≤ e0) (he : e0 ≤ inp.length) (hn : n ≤ 1048576) (hq : KQ (XZ F crc inp kind s p e0 n) (Y7 ds de dt) inp pr e0 h Q R) : VC E T 55 [.ptr pr 0, .agg [.str s.nm, .v (.slice none 0 0), di], .v (.slice none 0 0)] h Q R := by
  obtain ⟨h1, h3⟩ := hF.it s hs
  obtain ⟨nm, is⟩ := s
  exact vc55 hT h2.h88 h2.h89 h2.h86 h2.h65 h2.h55 ih hke hL h3 h1 hk hr np hp he hn hq
theorem vcKind (hT : RT E T F ds de dt) (h2 : RT2 E T) (hF : FOk F) (hb : ∀ b ∈ inp, b < 256) (hL : inp.length ≤ 1000000) : ∀ f, VK E T inp ds de dt (Yi F crc inp f) := by
  intro f
  induction f with
  | zero => intro a env p e0 n pr ps h Q R at_ hq; exact hq.elim
  | succ f ih =>
    intro a env p e0 n pr ps h Q R at_ hq
    have hke := Zmr (F := F) (crc := crc) (inp := inp) f
    have hL2 : inp.length ≤ 1048576 := by omega
    have hq : KQ (Zbn F crc inp f (Yi F crc inp f) a env p e0 n) (Y7 ds de dt) inp pr e0 h Q R := hq
    generalize Yi F crc inp f = kind at ih hke hq
    cases hx : F.ts[a]? with
    | none => unfold Zbn at hq; rw [hx] at hq; exact hq.elim
    | some t =>
    have ok := hF.ty t (List.mem_of_getElem? hx)
    obtain ⟨k, size, lit, nm, ex, inn, cs⟩ := t
    obtain ⟨o1, o2, o3, o4, o5⟩ := ok
    simp only at o1 o2 o3 o4 o5
    unfold Zbn at hq
    rw [hx] at hq
    rcases o1 with rfl | rfl | rfl | rfl | rfl | rfl | rfl | rfl | rfl | rfl
    · exact Z0m hT hb hx rfl hL2 at_ hq
    · obtain ⟨i, rfl⟩ := o2 (by decide)
      exact Zuf hT hx rfl hL2 at_ rfl rfl hq
    · obtain ⟨i, rfl⟩ := o2 (by decide)
      refine kind_2 hT hx at_ hq fun hk a2 hq => ?_
      refine vc173 hT h2.h173 h2.h228 hL2 (.inl rfl) hk a2 rfl ?_
      have e : ∀ c : Bool, (if 2 = 3 ∨ c = true then WY Zla (p + (Zi7 F env (.ofNat i)).1) n else .oof) = (if c then WY Zla (p + (Zi7 F env (.ofNat i)).1) n else .oof) := fun c => by cases c <;> rfl
      rw [e]
      exact hq
    · obtain ⟨i, rfl⟩ := o2 (by decide)
      refine kind_3 hT hx at_ hq fun hk a2 hq => ?_
      refine vc173 hT h2.h173 h2.h228 hL2 (.inr rfl) hk a2 rfl ?_
      rw [if_pos (show 3 = 3 ∨ _ from .inl rfl)]
      exact hq
    · obtain ⟨i, rfl⟩ := o2 (by decide)
      obtain ⟨w, rfl⟩ := o3 (by decide)
      exact kind_5 hT hx at_ hq fun hk a2 hq => vc174 hT h2.h174 ih hke hL2 hk a2 rfl hq
    · obtain ⟨w, rfl⟩ := o3 (by decide)
      exact kind_6 hT hx at_ hq fun hk a2 hq => vc175 hT h2.h175 ih hke hL hk a2 hq
    · obtain ⟨i, rfl⟩ := o2 (by decide)
      obtain ⟨w, rfl⟩ := o3 (by decide)
      exact kind_8 hT hx at_ hq fun hk a2 hq => vc177 hT h2.h177 ih hL2 hk a2 rfl hq
    · obtain ⟨i, rfl⟩ := o2 (by decide)
      exact kind_9 hT hx at_ hq fun hk a2 hq => vc178 hT ih hk o4 a2 rfl hq
    · obtain ⟨s, hs⟩ := o5 rfl
      have hq : KQ (match Zig nm F.ss with
        | some s => XZ F crc inp kind s p e0 n
        | none => .oof) (Y7 ds de dt) inp pr e0 h Q R := hq
      rw [hs] at hq
      refine kind_10 hT hx at_ hq fun hk a2 hq => ?_
      exact vc179 hT h2.h179 hF.ss hk a2 hs (fun hm hk hr np hq => vcRec hT h2 ih hke hF hL hm hk hr np a2.hp a2.he a2.hn hq) hq
    · exact Zxl hT hx rfl hL2 at_ hq
end
end
end Run
end
end Go.Abs
