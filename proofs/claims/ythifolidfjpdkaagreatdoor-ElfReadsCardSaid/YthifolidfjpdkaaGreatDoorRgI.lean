/- The law ElfReads: walk. -/
import Derived.Test.YthifolidfjpdkaaGreatDoorRgF
set_option linter.unusedVariables false
set_option linter.unusedSimpArgs false
namespace Go.Abs
noncomputable section
namespace Run
variable {E : Env} {T : Nat → Yd}
set_option maxHeartbeats 4000000
set_option maxRecDepth 100000
attribute [local go_sem] Zdv UJ Zdx UH UQ UG UM Zdu UL UK Zdt Wa US W7 UN V1 W9 YL V3 Zbi UU V0 UO UR UT V4 X8 V7 UP W8 W6 UI V5 V6 Zdz Zd0 UW Zaf Zab Wc Wb YM Zaa UZ Zdy Va Zai Zac Zag Vd Zad UX Zae UV V9 UY Vb Zah V8 Vc Zd1 Zak Zd5 Zaj Zd2 Zi0 Zi1 Ziy Ziz Zd3 Zd4 Za1 Za0 Za2 Za7 Za6 Za8 Zek Zej VA VB Vz Zd9 Vx Vy Vw Vt Zaw Wk Vq Vr Wm Wn Zaz Zay Zax Wj Xo W1 Zao Zeb Zeg Zpv Xr Xq Vo Zau Wo Vp Yu Y5 Xt YS WK patch YQ YR Xn Xm Wy Wx X1 X2 W5 VG Wu Xu YV Xp Wr XP Xs YO Yf YT mem_cons Zei Zea Xk Option.map_some Option.map_none Vv Wp Ws Wq Zav Vu Wl Vs YP X4 XA Xv XB Wz Xw Xz Xx YW Xy Vl Wh Vn Vi Zas Vj Vm Vk Wi Wg YD VT WH Zfx Zcy Zc3 Zb3 Zeo Zsi Xg XU VH WQ YN Xl YU Yv Yn X7 ZZ X5 List.drop_succ_cons List.drop_zero List.drop_nil List.take_succ_cons List.take_zero List.take_nil List.length_cons List.length_nil List.length_append List.cons_append List.nil_append Nat.reduceAdd Nat.reduceEqDiff Nat.reduceLeDiff Nat.reduceLT List.cons.injEq reduceCtorEq eq_self not_true_eq_false not_false_eq_true and_false false_and true_or or_true decide_true decide_false Bool.and_self Bool.and_true Bool.true_and Bool.true_or Bool.or_true Bool.false_or Bool.or_false Bool.false_and Bool.and_false Bool.not_true Bool.not_false cond_true cond_false true_and and_true Zex Zef Zen reduceIte Nat.add_zero Nat.zero_add Nat.add_sub_cancel Nat.reduceMul Nat.reduceSub Nat.reduceBEq List.map_cons List.map_nil Z1 Z0 Yw ZG Zr Zv Wd Zd6 XQ Yo Y0 Wf We XH XG and_assoc exists_and_left D.str.injEq Nat.lt_irrefl Nat.not_lt_zero true_implies false_implies implies_true forall_const ge_iff_le gt_iff_lt Nat.sub_zero List.append_assoc Option.some.injEq AObj.cells.injEq D.int.injEq D.ptr.injEq Int.ofNat.injEq exists_eq_left' D.v.injEq Value.bool.injEq D.agg.injEq Nat.mul_one Zlk Zu4
variable {h : H} {Q : D → H → Prop} {R : Y1}
def q3 : Yd := Uz Zs (fun t h => .ok (Gt 2 t) h)
 (Z2 (Z7<|fo (ZC (kD (.v (.bool false)))) (St 2)<|Z8)
 (Z2 (Z7<|mK 6 [] 16<|mK 5 [(Gt 16)] 17<|mM 17 15<|mE 0 15 18<|mE 1 15 19<|mE 2 15 20<|fo (ZN 25 [(.int .i64 (.ofNat 0)),(.int .i64 (.ofNat 0))]) (St 4)<|mM 18 3<|fo (ZV 2 (Gt 4) (Gt 19)) p0<|mM 20 5<|Z8)
 (Z2 (Z7<|mM 0 22<|mK 7 [(Gt 22)] 23<|mM 23 21<|mE 0 21 24<|mE 1 21 25<|mM 24 6<|mM 25 7<|Z8)
 (Z2 (Z7<|mM 6 26<|mK 8 [(Gt 26)] 27<|mM 27 8<|Z8)
 (Z2 (Z7<|mM 3 29<|mM 8 30<|mK 9 [(Gt 29),(Gt 30)] 31<|mM 31 28<|mE 0 28 32<|mE 1 28 33<|mE 2 28 34<|fo (ZN 39 [(.int .i64 (.ofNat 0)),(.int .u64 (.ofNat 0)),(.str []),(.v (.slice none 0 0))]) (St 9)<|fo (ZV 4 (Gt 9) (Gt 32)) p0<|mM 33 10<|mM 34 11<|Z8)
 (Z2 (Z2 (Z7<|mK 10 [] 35<|fo (u1 (Zft .not) (Gt 35)) (St 36)<|mM 36 37<|YG (Gt 37) false (ZC (Gt 5)) (St 38)<|YG (Gt 37) false (mR 26 38 0) (St 39)<|fo (Xa (Gt 37) (kD (.v (.bool true))) (Gt 39)) (St 40)<|mM 40 41<|YG (Gt 41) false (ZC (Gt 11)) (St 42)<|YG (Gt 41) false (mR 26 42 0) (St 43)<|fo (Xa (Gt 41) (kD (.v (.bool true))) (Gt 43)) (St 44)<|mM 44 45<|YG (Gt 45) false (u1 (ZL 3) (Gt 9)) (St 46)<|YG (Gt 45) false (ZO (Gt 46)) (St 47)<|YG (Gt 45) false (u1 YI (Gt 47)) (St 48)<|YG (Gt 45) false (mR 3 48 21) (St 49)<|fo (Xa (Gt 45) (kD (.v (.bool true))) (Gt 49)) (St 50)<|mM 50 51<|YG (Gt 51) false (u1 (ZL 3) (Gt 9)) (St 52)<|YG (Gt 51) false (ZO (Gt 52)) (St 53)<|YG (Gt 51) false (u2 (Ym 4) (Gt 53) (kI 19)) (St 54)<|YG (Gt 51) false (u1 (ZL 3) (Gt 54)) (St 55)<|YG (Gt 51) false (ZO (Gt 55)) (St 56)<|YG (Gt 51) false (u1 YI (Gt 56)) (St 57)<|YG (Gt 51) false (ZC (Gt 6)) (St 58)<|YG (Gt 51) false (u1 YI (Gt 58)) (St 59)<|YG (Gt 51) false (Zq VT .neq 3 (.tmp 57) (.tmp 59) (Gt 57) (Gt 59)) (St 60)<|fo (Xa (Gt 51) (kD (.v (.bool true))) (Gt 60)) (St 61)<|mM 61 62<|YG (Gt 62) false (u1 (ZL 3) (Gt 9)) (St 63)<|YG (Gt 62) false (ZO (Gt 63)) (St 64)<|YG (Gt 62) false (u2 (Ym 4) (Gt 64) (kI 20)) (St 65)<|YG (Gt 62) false (u1 (ZL 3) (Gt 65)) (St 66)<|YG (Gt 62) false (ZO (Gt 66)) (St 67)<|YG (Gt 62) false (u1 YI (Gt 67)) (St 68)<|YG (Gt 62) false (ZC (Gt 8)) (St 69)<|YG (Gt 62) false (u1 WD (Gt 69)) (St 70)<|YG (Gt 62) false (Zq Zgh .sub 3 (.tmp 70) (.const (.int .i64 (.ofNat 64))) (Gt 70) (kI 64)) (St 71)<|YG (Gt 62) false (Zq VT .neq 3 (.tmp 68) (.tmp 71) (Gt 68) (Gt 71)) (St 72)<|fo (Xa (Gt 62) (kD (.v (.bool true))) (Gt 72)) (St 73)<|Z8)
 (Zt (Gt 73) (Z2 (Z7<|fo (ZC (kD (.v (.bool false)))) (St 2)<|Z8)
 ZF) ZJ))
 (Z2 (Z2 (Z7<|mF 3 9 74<|mL 74 75<|fo (u2 (Ym 4) (Gt 75) (kI 19)) (St 76)<|mF 3 76 77<|mL 77 78<|fo (u1 YI (Gt 78)) (St 79)<|fo (ZC (kI 0)) (St 80)<|Z8)
 (ZM 0 (Xi (Z2 (Z7<|fo (Zq WH .lss 3 (.tmp 80) (.tmp 79) (Gt 80) (Gt 79)) (St 81)<|Z8)
 (Z2 (Zt (Gt 81) ZJ (WS 0))
 (Z2 (ZM 1 (Z2 (Z7<|mM 80 82<|fo (u2 (Ym 4) (Gt 78) (Gt 80)) (St 83)<|fo (Yy 4 (Gt 83)) (St 84)<|fo (ZN 39 [(.int .i64 (.ofNat 0)),(.int .u64 (.ofNat 0)),(.str []),(.v (.slice none 0 0))]) (St 13)<|mM 82 12<|fo (ZV 4 (Gt 13) (Gt 84)) p0<|Z8)
 (Z2 (Z2 (YY<|Zu (u1 (ZL 3) (Gt 13)) (St 85)<|Xj 1 [] 1 (Gt 85) (ZO (Gt 85)) (St 86)<|Zu (u1 YI (Gt 86)) (St 87)<|Zu (mR 3 87 11) (St 88)<|Zu (ZC (Gt 88)) (St 89)<|Zsr (Gt 89) false (Zu (u1 (ZL 3) (Gt 13)) (St 90)) (St 90)<|Zsr (Gt 89) false (Xj 6 [] 1 (Gt 90) (ZO (Gt 90)) (St 91)) (St 91)<|Zsr (Gt 89) false (Zu (u2 (Ym 4) (Gt 91) (kI 1)) (St 92)) (St 92)<|Zsr (Gt 89) false (Zu (u1 (ZL 1) (Gt 92)) (St 93)) (St 93)<|Zsr (Gt 89) false (Xj 9 [] 1 (Gt 93) (ZO (Gt 93)) (St 94)) (St 94)<|Zsr (Gt 89) false (Zu (ZC (Gt 6)) (St 95)) (St 95)<|Zsr (Gt 89) false (Zu (ZC (Gt 12)) (St 96)) (St 96)<|Zsr (Gt 89) false (Zu (u2 (Ym 2) (Gt 95) (Gt 96)) (St 97)) (St 97)<|Zsr (Gt 89) false (Zu (u1 (ZL 0) (Gt 97)) (St 98)) (St 98)<|Zsr (Gt 89) false (Xj 14 [5,6,7,8,9] 1 (Gt 98) (ZO (Gt 98)) (St 99)) (St 99)<|Zsr (Gt 89) false (Zu (WT .u64 (Gt 99)) (St 100)) (St 100)<|Zsr (Gt 89) false (Zu (Zq VT .neq 36 (.tmp 94) (.tmp 100) (Gt 94) (Gt 100)) (St 101)) (St 101)<|Zu (Xa (Gt 89) (kD (.v (.bool true))) (Gt 101)) (St 102)<|YZ)
 (Zt (Gt 102) (Z2 (Z7<|fo (ZC (kD (.v (.bool false)))) (St 2)<|Z8)
 ZF) ZJ))
 (Z2 (Z7<|mM 6 103<|mM 12 104<|fo (u2 (Ym 2) (Gt 103) (Gt 104)) (St 105)<|mF 1 105 106<|mL 106 107<|mK 11 [(Gt 107)] 108<|fo (ZN 39 [(.int .i64 (.ofNat 0)),(.int .u64 (.ofNat 0)),(.str []),(.v (.slice none 0 0))]) (St 14)<|fo (ZV 4 (Gt 14) (Gt 108)) p0<|Z8)
 (Z2 (Z2 (Z7<|mM 6 109<|mM 12 110<|fo (u2 (Ym 2) (Gt 109) (Gt 110)) (St 111)<|mF 0 111 112<|mL 112 113<|fo (Zq YD .eql 43 (.tmp 113) (.const (.int .u32 (.ofNat 0))) (Gt 113) (kD (.int .u32 (.ofNat 0)))) (St 114)<|mM 114 115<|YG (Gt 115) false (ZC (Gt 6)) (St 116)<|YG (Gt 115) false (ZC (Gt 12)) (St 117)<|YG (Gt 115) false (u2 (Ym 2) (Gt 116) (Gt 117)) (St 118)<|YG (Gt 115) false (u1 (ZL 0) (Gt 118)) (St 119)<|YG (Gt 115) false (ZO (Gt 119)) (St 120)<|YG (Gt 115) false (Zq YD .eql 43 (.tmp 120) (.const (.int .u32 (.ofNat 8))) (Gt 120) (kD (.int .u32 (.ofNat 8)))) (St 121)<|fo (Xa (Gt 115) (kD (.v (.bool true))) (Gt 121)) (St 122)<|Z8)
 (Zt (Gt 122) (Z7<|fo (YA [(.int .i64 (.ofNat 0)),(.int .u64 (.ofNat 0)),(.str []),(.v (.slice none 0 0))] []) (St 123)<|fo (ZV 4 (Gt 14) (Gt 123)) p0<|Z8) ZJ))
 (Z2 (YY<|Zu (u1 (ZL 3) (Gt 13)) (St 124)<|Xj 1 [] 1 (Gt 124) (ZO (Gt 124)) (St 125)<|Zu (u2 (Ym 4) (Gt 125) (kI 10)) (St 126)<|Xj 3 [] 4 (Gt 126) (Yy 4 (Gt 126)) (St 127)<|Xj 4 [0,1,2,3] 4 (Gt 14) (Yy 4 (Gt 14)) (St 128)<|Zim 5 [] (ZW 12 [(Gt 127),(Gt 128)]) (St 129)<|Zu (u1 (Zft .not) (Gt 129)) (St 130)<|YZ)
 (Zt (Gt 130) (Z2 (Z7<|fo (ZC (kD (.v (.bool false)))) (St 2)<|Z8)
 ZF) ZJ)))))))
 (Z7<|fo (Zq YJ .add 3 (.tmp 80) (.const (.int .i64 (.ofNat 1))) (Gt 80) (kI 1)) (St 131)<|mM 131 80<|Z8)))))))
 (Z2 (Z7<|fo (ZC (kD (.v (.bool true)))) (St 2)<|Z8)
 ZF))))))))
theorem run_any {k : Nat} {ds : List D} {r : D} (hk : T k = Xb (Y2 ds r)) (hs : Y6 ds ds = true) (hq : Q r h) : VC E T k ds h Q R := Zcj hk (by
  show VO Q R (bif Y6 ds ds then .ok r h else .fail "another call")
  rw [hs]
  exact hq)
theorem Zi8 {k n : Nat} {s : List Nat} {c : List D} (h : Rep (.mk k n s []) c) : c = [.int .i64 (.ofNat k), .int .u64 (.ofNat n), .str s, .v (.slice none 0 0)] := by
  cases h with
  | mk hb hn h4 hr hL =>
    rcases hL with ⟨_, rfl⟩ | ⟨_, _, h⟩
    · rfl
    · exact absurd rfl h
abbrev nilD : D := .v (.slice none 0 0)
theorem Zuk {sx : List (Nat × List Nat)} {ext : List Nat} {a b c d : D} (h : Rep (Z07 sx ext) [a, b, c, d]) : ∃ L19 L20, (a = .int .i64 (.ofNat 4) ∧ b = .int .u64 (.ofNat 0) ∧ c = .str []) ∧ d.one = true ∧ (∀ h, Zhr d h = .ok (.int .i64 (.ofNat 21)) h) ∧ (∃ x y z r, ∀ h, Zbw 4 d (.int .i64 (.ofNat 19)) h = .ok (.ep (x :: y :: z :: L19 :: r)) h) ∧ (∃ x y z r, ∀ h, Zbw 4 d (.int .i64 (.ofNat 20)) h = .ok (.ep (x :: y :: z :: L20 :: r)) h) ∧ (∀ h, Zhr L19 h = .ok (.int .i64 (.ofNat sx.length)) h) ∧ (∀ h, Zhr L20 h = .ok (.int .i64 (.ofNat ((UB sx ++ ext).length - 64))) h) ∧ UC Rep 4 L19 (Zc5 (UB sx ++ ext) 0 sx) := by
  obtain ⟨L, e, _, hr⟩ := Rep.inv h
  have h1' : L.one = true := by
    obtain ⟨_, _, _, e⟩ := hr
    rcases e with ⟨_, rfl⟩ | ⟨_, rfl, _⟩ <;> rfl
  cases e
  obtain ⟨a1, b1, e1, f1, r1, h1, g1⟩ := Zf2 hr (i := 19) (x := Z0d (Zc5 (UB sx ++ ext) 0 sx)) rfl
  obtain ⟨a2, b2, e2, f2, r2, h2, g2⟩ := Zf2 hr (i := 20) (x := Z0d (List.replicate ((UB sx ++ ext).length - 64) Zla)) rfl
  obtain ⟨L1, q1, _, hr1⟩ := Rep.inv h1
  obtain ⟨L2, q2, _, hr2⟩ := Rep.inv h2
  cases q1; cases q2
  refine ⟨_, _, ⟨rfl, rfl, rfl⟩, h1', fun h => Zk2 hr h, ⟨_, _, _, r1, fun h => g1 .i64 h⟩, ⟨_, _, _, r2, fun h => g2 .i64 h⟩, fun h => ?_, fun h => ?_, hr1⟩
  · rw [Zk2 hr1 h, Zn3]
  · rw [Zk2 hr2 h, List.length_replicate]
theorem Zwy {sx : List (Nat × List Nat)} {ext dat : List Nat} {L : D} {i kd : Nat} (hr : UC Rep 4 L (Zc5 (UB sx ++ ext) 0 sx)) (hx : sx[i]? = some (kd, dat)) : ∃ L1, L1.one = true ∧ (∃ r, ∀ h, Zbw 4 L (.int .i64 (.ofNat i)) h = .ok (.ep (.int .i64 (.ofNat 4) :: .int .u64 (.ofNat 0) :: .str [] :: L1 :: r)) h) ∧ (∀ h, Zhr L1 h = .ok (.int .i64 (.ofNat 11)) h) ∧ (∃ r, ∀ h, Zbw 4 L1 (.int .i64 (.ofNat 1)) h = .ok (.ep (.int .i64 (.ofNat 1) :: .int .u64 (.ofNat kd) :: .str [] :: nilD :: r)) h) ∧ ∃ r, ∀ h, Zbw 4 L1 (.int .i64 (.ofNat 10)) h = .ok (.ep (if kd = 0 ∨ kd = 8 then (.int .i64 (.ofNat 0) :: .int .u64 (.ofNat 0) :: .str [] :: nilD :: r) else (.int .i64 (.ofNat 2) :: .int .u64 (.ofNat 0) :: .str dat :: nilD :: r))) h := by
  obtain ⟨o, ho⟩ := elfV_at (ext := ext) hx
  obtain ⟨a1, b1, e1, f1, r1, h1, g1⟩ := Zf2 hr ho
  obtain ⟨L1, q1, _, hr1⟩ := Rep.inv h1
  cases q1
  obtain ⟨a2, b2, e2, f2, r2, h2, g2⟩ := Zf2 hr1 (i := 1) (x := U1 kd) rfl
  obtain ⟨a3, b3, e3, f3, r3, h3, g3⟩ := Zf2 hr1 (i := 10) (x := if kd = 0 ∨ kd = 8 then Zla else Z3a dat) rfl
  have q2 := Zi8 h2
  cases q2
  have h1' : f1.one = true := by
    obtain ⟨_, _, _, e⟩ := hr1
    rcases e with ⟨_, rfl⟩ | ⟨_, rfl, _⟩ <;> rfl
  refine ⟨_, h1', ⟨r1, fun h => g1 .i64 h⟩, fun h => Zk2 hr1 h, ⟨r2, fun h => g2 .i64 h⟩, r3, fun h => ?_⟩
  rw [g3 .i64 h]
  split at h3
  · rename_i hk
    have q3 := Zi8 h3
    cases q3
    rw [if_pos hk]
  · rename_i hk
    have q3 := Zi8 h3
    cases q3
    rw [if_neg hk]
theorem isS_len {x : D} {sx : List (Nat × List Nat)} (h : isS x sx) : ∀ hh : H, Zhr x hh = .ok (.int .i64 (.ofNat sx.length)) hh := by
  rcases h with ⟨rfl, rfl⟩ | ⟨_, id, rfl⟩ <;> intro hh <;> rfl
theorem isS_at {x : D} {sx : List (Nat × List Nat)} {i kd : Nat} {dat : List Nat} (h : isS x sx) (hx : sx[i]? = some (kd, dat)) : ∃ r, ∀ hh : H, Zbw 2 x (.int .i64 (.ofNat i)) hh = .ok (.ep (.int .u32 (.ofNat kd) :: .str dat :: r)) hh := by
  rcases h with ⟨rfl, rfl⟩ | ⟨_, id, rfl⟩
  · cases hx
  · have hlt := (List.getElem?_eq_some_iff.1 hx).1
    have hdr : sx.drop i = (kd, dat) :: sx.drop (i + 1) := by
      rw [List.drop_eq_getElem_cons hlt]
      congr 1
      rw [List.getElem?_eq_getElem hlt] at hx
      exact Option.some.inj hx
    exact ⟨VQ (sx.drop (i + 1)), fun hh => VY hlt (by rw [Zgt, hdr]; rfl)⟩
theorem Zyg {sx : List (Nat × List Nat)} (hs : SOk sx) {h : H} {Q : D → H → Prop} {R : Y1} (hq : ∀ h' a b c d, Rep (Z07 sx []) [a, b, c, d] → h.next ≤ h'.next → (∀ x, x < h.next → hget h'.mem x = hget h.mem x) → Q (.tup [.agg [a, b, c, d], .int .i64 (.ofNat 0), .int .i64 (.ofNat 0)]) h') : VC Zg6 Ud 9 [Y3, .str (UB sx)] h Q R := by
  have := Z12 hs (ext := []) (by decide) (fun b hb => absurd hb List.not_mem_nil) (R := R) hq
  rwa [List.append_nil] at this
theorem Zqw {m : Nat} (hm : m < 4294967296) : Zb1 .u64 (.ofNat m) = .ofNat m := by
  have : Nat.ble m (Zsg .u64) = true := Nat.ble_eq_true_of_le (by show m ≤ 18446744073709551615; omega)
  simp only [Zb1, this, cond_true]
abbrev I3 (L x : D) (n m : Nat) (t1 : Tr D) (h1 : H) : Prop := Gt 78 t1 = L ∧ Gt 79 t1 = .int .i64 (.ofNat n) ∧ Gt 6 t1 = x ∧ ∃ i, Gt 80 t1 = .int .i64 (.ofNat i) ∧ i + m = n
def C7 (d0 : D) (l : List (Nat × List Nat)) : Prop := ∀ {h : H} {Q : D → H → Prop} {R : Y1}, (∀ h' x y, h.next ≤ h'.next → (∀ l, l < h.next → hget h'.mem l = hget h.mem l) → isS x (WU l) → Q (.tup [x, y]) h') → VC Zg6 Ud 7 [d0] h Q R
def C8 (l : List (Nat × List Nat)) : Prop := ∀ {x : D} {h : H} {Q : D → H → Prop} {R : Y1}, isS x (WU l) → (∀ h', h.next ≤ h'.next → (∀ l, l < h.next → hget h'.mem l = hget h.mem l) → Q (.str (UB (WU l))) h') → VC Zg6 Ud 8 [x] h Q R
section
variable {d0 : D} {l : List (Nat × List Nat)} {Q : D → H → Prop} {R : Y1}
theorem C7.out (hc : C7 d0 l) (hq : ∀ h' x y, h.next ≤ h'.next → (∀ l, l < h.next → hget h'.mem l = hget h.mem l) → isS x (WU l) → Q (.tup [x, y]) h') : VC Zg6 Ud 7 [d0] h Q R := hc hq
theorem C8.out (hc : C8 l) {x : D} (hx : isS x (WU l)) (hq : ∀ h', h.next ≤ h'.next → (∀ l, l < h.next → hget h'.mem l = hget h.mem l) → Q (.str (UB (WU l))) h') : VC Zg6 Ud 8 [x] h Q R := hc hx hq
theorem run6 (h6 : Ud 6 = Xb (Y2 [] Yk)) (hq : Q Yk h) : VC Zg6 Ud 6 [] h Q R := run_any h6 Yo hq
theorem run5 (h5 : Ud 5 = Xb (Y2 [Yk] U2)) (hf : D.same Yk Yk = true) (hq : Q (.tup [Y3, .agg [.int .i64 (.ofNat 0), .int .i64 (.ofNat 0)], .int .i64 (.ofNat 0)]) h) : VC Zg6 Ud 5 [Yk] h Q R := run_any h5 (by rw [Y0, hf, Yo]; rfl) hq
theorem run10 (h10 : Ud 10 = Xb (Y2 [] (.v (.bool true)))) (hq : Q (.v (.bool true)) h) : VC Zg6 Ud 10 [] h Q R := run_any h10 Yo hq
end
theorem vc3 {d0 : D} {l : List (Nat × List Nat)} {Q : D → H → Prop} {R : Y1} (h3 : Ud 3 = q3) (h6 : Ud 6 = Xb (Y2 [] Yk)) (h5 : Ud 5 = Xb (Y2 [Yk] U2)) (h10 : Ud 10 = Xb (Y2 [] (.v (.bool true)))) (h11 : Ud 11 = q11)
    (h98 : Ud 98 = q98) (h62 : Ud 62 = q62) (h35 : Ud 35 = q35) (h27 : Ud 27 = q27) (h28 : Ud 28 = q28) (h12 : Ud 12 = q12)
    (h7 : C7 d0 l) (h8 : C8 l) (hs : SOk (WU l)) (hf : D.same Yk Yk = true) (hq : ∀ h', Q (.v (.bool true)) h') : VC Zg6 Ud 3 [d0] h Q R := by
  have hn := hs.n
  have helu : (UB (WU l)).length ≤ 9223372036854775807 := by
    have hd := Zir hs.d
    rw [Ziq]; omega
  have hel : 64 ≤ (UB (WU l)).length := by rw [Ziq]; omega
  refine Zp h3 ?_
  unfold Zs
  repeat' (with_reducible (first | refine Za ?_ | refine Zb ?_ | refine Zk ?_ | refine Zj ?_ | refine Zd ?_ | refine Z3 ?_ | refine Zc ?_ | refine Zl ?_ | refine Z9 ?_ | refine Z4 ?_ | refine Ze ?_ | refine run6 h6 ?_ | refine run5 h5 hf ?_ | refine h7.out ?_ | refine h8.out (by assumption) ?_ | refine Zyg hs ?_ | refine run10 h10 ?_ | refine WW (I3 L19 x0 (WU l).length) (n := (WU l).length) ?_ ?_ | simp (maxSteps := 2000000) (disch := first | assumption | omega | (simp only [Z1, Z0, List.length_cons, List.length_nil, List.length_append, List.length_take, List.length_drop]; omega) | fail) only [go_sem, -Int.reduceOfNat, *, ZZ] | ((first | refine Zn ?_ ?_ | refine Zh ?_ ?_ | refine Zm ?_ ?_ | refine Zf ?_ ?_ | refine Zg ?_ ?_ | refine Z5 ?_ ?_) <;> intro _ <;> (try (exfalso; omega))) | (intro h2 x0 y0 f1 f2 hx0; have hxl := isS_len hx0) | (intro h3 a b c d hr f3 f4; obtain ⟨L19, L20, ⟨rfl, rfl, rfl⟩, g0, g1, ⟨x1, y1, z1, r1, g2⟩, ⟨x2, y2, z2, r2, g3⟩, g4, g5, hr19⟩ := Zuk hr; rw [List.append_nil] at g5) | assumption | exact trivial | (show _ < _; omega) | (show _ ≤ _; omega) | (show ¬ (_ : Nat) = _; omega) | (show (_ : Nat) ≠ _; omega) | (show (_ : Nat) = _; omega) | (intro _; intros) | (refine ⟨_, by assumption, ?_⟩) | refine And.intro ?_ ?_))
  rintro m t1 h1 ⟨g78, g79, g6, i, g80, gi⟩
  by_cases hlt : i < (WU l).length
  · obtain ⟨kd, dat, hxi⟩ : ∃ kd dat, (WU l)[i]? = some (kd, dat) := ⟨(WU l)[i].1, (WU l)[i].2, List.getElem?_eq_getElem hlt⟩
    obtain ⟨L1, e0, ⟨r3, e1⟩, e2, ⟨r4, e3⟩, r5, e4⟩ := Zwy hr19 hxi
    obtain ⟨r6, e5⟩ := isS_at hx0 hxi
    have hkd : kd < 4294967296 := hs.k _ (List.mem_of_getElem? hxi)
    have hw := Zqw hkd
    clear hr19 hr hx0 hs h7 h8 g1 g2 g3 g4 g5 f2 f4 hkd hxi
    have hl0 : Zjv 0 [] := Or.inl ⟨rfl, rfl⟩
    have hl2 : Zjv 2 dat := Or.inr rfl
    by_cases hk : kd = 0 ∨ kd = 8
    · simp only [if_pos hk] at e4
      rcases hk with rfl | rfl
      · repeat' (with_reducible (first | refine Za ?_ | refine Zb ?_ | refine Zk ?_ | refine Zj ?_ | refine Zd ?_ | refine Z3 ?_ | refine Zc ?_ | refine Zl ?_ | refine Z9 ?_ | refine Z4 ?_ | refine Ze ?_ | refine Z15 h11 ?_ | refine vc12 h98 h62 h35 h27 h28 h12 hl0 ?_ | simp (maxSteps := 2000000) (disch := first | assumption | omega | (simp only [Z1, Z0, List.length_cons, List.length_nil, List.length_append, List.length_take, List.length_drop]; omega) | fail) only [go_sem, -Int.reduceOfNat, *, Zb3, Nat.beq_refl] | ((first | refine Zn ?_ ?_ | refine Zh ?_ ?_ | refine Zm ?_ ?_ | refine Zf ?_ ?_ | refine Zg ?_ ?_ | refine Z5 ?_ ?_) <;> intro _ <;> (try (exfalso; omega))) | (show ∃ k, k < m ∧ I3 _ _ _ k _ _; refine ⟨m - 1, by omega, ?_⟩) | assumption | exact trivial | (show _ < _; omega) | (show _ ≤ _; omega) | (show ¬ (_ : Nat) = _; omega) | (show (_ : Nat) ≠ _; omega) | (show (_ : Nat) = _; omega) | (intro _; intros) | (refine ⟨_, by assumption, ?_⟩) | refine And.intro ?_ ?_))
      · repeat' (with_reducible (first | refine Za ?_ | refine Zb ?_ | refine Zk ?_ | refine Zj ?_ | refine Zd ?_ | refine Z3 ?_ | refine Zc ?_ | refine Zl ?_ | refine Z9 ?_ | refine Z4 ?_ | refine Ze ?_ | refine Z15 h11 ?_ | refine vc12 h98 h62 h35 h27 h28 h12 hl0 ?_ | simp (maxSteps := 2000000) (disch := first | assumption | omega | (simp only [Z1, Z0, List.length_cons, List.length_nil, List.length_append, List.length_take, List.length_drop]; omega) | fail) only [go_sem, -Int.reduceOfNat, *, Zb3, Nat.beq_refl] | ((first | refine Zn ?_ ?_ | refine Zh ?_ ?_ | refine Zm ?_ ?_ | refine Zf ?_ ?_ | refine Zg ?_ ?_ | refine Z5 ?_ ?_) <;> intro _ <;> (try (exfalso; omega))) | (show ∃ k, k < m ∧ I3 _ _ _ k _ _; refine ⟨m - 1, by omega, ?_⟩) | assumption | exact trivial | (show _ < _; omega) | (show _ ≤ _; omega) | (show ¬ (_ : Nat) = _; omega) | (show (_ : Nat) ≠ _; omega) | (show (_ : Nat) = _; omega) | (intro _; intros) | (refine ⟨_, by assumption, ?_⟩) | refine And.intro ?_ ?_))
    · simp only [if_neg hk] at e4
      obtain ⟨hk0, hk8⟩ := not_or.mp hk
      clear hk
      repeat' (with_reducible (first | refine Za ?_ | refine Zb ?_ | refine Zk ?_ | refine Zj ?_ | refine Zd ?_ | refine Z3 ?_ | refine Zc ?_ | refine Zl ?_ | refine Z9 ?_ | refine Z4 ?_ | refine Ze ?_ | refine Z15 h11 ?_ | refine vc12 h98 h62 h35 h27 h28 h12 hl2 ?_ | simp (maxSteps := 2000000) (disch := first | assumption | omega | (simp only [Z1, Z0, List.length_cons, List.length_nil, List.length_append, List.length_take, List.length_drop]; omega) | fail) only [go_sem, -Int.reduceOfNat, *, Zb3, Nat.beq_refl] | ((first | refine Zn ?_ ?_ | refine Zh ?_ ?_ | refine Zm ?_ ?_ | refine Zf ?_ ?_ | refine Zg ?_ ?_ | refine Z5 ?_ ?_) <;> intro _ <;> (try (exfalso; omega))) | (show ∃ k, k < m ∧ I3 _ _ _ k _ _; refine ⟨m - 1, by omega, ?_⟩) | assumption | exact trivial | (show _ < _; omega) | (show _ ≤ _; omega) | (show ¬ (_ : Nat) = _; omega) | (show (_ : Nat) ≠ _; omega) | (show (_ : Nat) = _; omega) | (intro _; intros) | (refine ⟨_, by assumption, ?_⟩) | refine And.intro ?_ ?_))
  · obtain rfl : i = (WU l).length := by omega
    clear hr19 hr hx0 hs h7 h8 g1 g2 g3 g4 g5 f2 f4
    repeat' (with_reducible (first | refine Za ?_ | refine Zb ?_ | refine Zk ?_ | refine Zj ?_ | refine Zd ?_ | refine Z3 ?_ | refine Zc ?_ | refine Zl ?_ | refine Z9 ?_ | refine Z4 ?_ | refine Ze ?_ | simp (maxSteps := 2000000) (disch := first | assumption | omega | (simp only [Z1, Z0, List.length_cons, List.length_nil, List.length_append, List.length_take, List.length_drop]; omega) | fail) only [go_sem, -Int.reduceOfNat, *] | ((first | refine Zn ?_ ?_ | refine Zh ?_ ?_ | refine Zm ?_ ?_ | refine Zf ?_ ?_ | refine Zg ?_ ?_ | refine Z5 ?_ ?_) <;> intro _ <;> (try (exfalso; omega))) | (show Q _ _; exact hq _) | assumption | exact trivial | (show _ < _; omega) | (show _ ≤ _; omega) | (show ¬ (_ : Nat) = _; omega) | (show (_ : Nat) ≠ _; omega) | (show (_ : Nat) = _; omega) | (intro _; intros) | (refine ⟨_, by assumption, ?_⟩) | refine And.intro ?_ ?_))
end Run
end
end Go.Abs
