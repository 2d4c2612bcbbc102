/- Env.With, by rules. -/
import Derived.Test.YthifolidfjpdkaaGreatDoorReA
import Derived.Test.YthifolidfjpdkaaGreatDoorRdS
import Derived.Test.YthifolidfjpdkaaGreatDoorNdLibS
import Derived.Test.YthifolidfjpdkaaGreatDoorLibW
import Derived.Test.YthifolidfjpdkaaGreatDoorNdElf
import Derived.Test.YthifolidfjpdkaaGreatDoorNdTable
set_option linter.unusedVariables false
set_option linter.unusedSimpArgs false
namespace Go.Abs
noncomputable section
namespace Run
variable {E : Env} {T : Nat → Yd}
set_option maxHeartbeats 4000000
set_option maxRecDepth 100000
attribute [local go_sem] Zdv UJ Zdx UH UQ UG UM Zdu UL UK Zdt Wa US W7 UN V1 W9 YL V3 Zbi UU V0 UO UR UT V4 X8 V7 UP W8 W6 UI V5 V6 Zdz Zd0 UW Zaf Zab Wc Wb YM Zaa UZ Zdy Va Zai Zac Zag Vd Zad UX Zae UV V9 UY Vb Zah V8 Vc Zd1 Zak Zd5 Zaj Zd2 Zi0 Zi1 Ziy Ziz Zd3 Zd4 Za1 Za0 Za2 Za7 Za6 Za8 Zek Zej VA VB Vz Zd9 Vx Vy Vw Vt Zaw Wk Vq Vr Wm Wn Zaz Zay Zax Wj Xo W1 Zao Zeb Zeg Zpv Xr Xq Vo Zau Wo Vp Yu Y5 Xt YS WK patch YQ YR Xn Xm Wy Wx X1 X2 W5 VG Wu Xu YV Xp Wr XP Xs YO Yf YT mem_cons Zei Zea Xk Option.map_some Option.map_none Vv Wp Ws Wq Zav Vu Wl Vs YP X4 XA Xv XB Wz Xw Xz Xx YW Xy Vl Wh Vn Vi Zas Vj Vm Vk Wi Wg YD VT WH Zfx Zcy Zc3 Zb3 Zeo Zsi Xg XU VH WQ YN Xl YU Yv Yn X7 ZZ X5 List.drop_succ_cons List.drop_zero List.drop_nil List.take_succ_cons List.take_zero List.take_nil List.length_cons List.length_nil List.length_append List.cons_append List.nil_append Nat.reduceAdd Nat.reduceEqDiff Nat.reduceLeDiff Nat.reduceLT List.cons.injEq reduceCtorEq eq_self not_true_eq_false not_false_eq_true and_false false_and true_or or_true decide_true decide_false Bool.and_self Bool.and_true Bool.true_and Bool.true_or Bool.or_true Bool.false_or Bool.or_false Bool.false_and Bool.and_false Bool.not_true Bool.not_false cond_true cond_false true_and and_true Zex Zef Zen reduceIte Nat.add_zero Nat.zero_add Nat.add_sub_cancel Nat.reduceMul Nat.reduceSub Nat.reduceBEq List.map_cons List.map_nil Z1 Z0 Yw ZG Zr Zv Wd Zd6 XQ Yo Y0 Wf We XH XG and_assoc exists_and_left D.str.injEq Nat.lt_irrefl Nat.not_lt_zero true_implies false_implies implies_true forall_const ge_iff_le gt_iff_lt Nat.sub_zero List.append_assoc Option.some.injEq AObj.cells.injEq D.int.injEq D.ptr.injEq Int.ofNat.injEq exists_eq_left' D.v.injEq Value.bool.injEq D.agg.injEq Nat.mul_one Zlk Zu4
variable {h : H} {Q : D → H → Prop} {R : Y1}
def q86 : Yd := Uz Zs (fun t h => .ok (Gt 6 t) h)
 (Z2 (Z7<|fo (ZC (kD (.v (.slice none 0 0)))) (St 6)<|Z8)
 (Z2 (Z7<|mM 0 7<|mK 119 [(Gt 7)] 8<|mM 1 9<|mM 2 10<|fo (YA [(.str []),(.int .u64 (.ofNat 0))] [(0,1,(Gt 9)),(1,1,(Gt 10))]) (St 11)<|fo (XK 217 1 [(.str []),(.int .u64 (.ofNat 0))] [(0,2,(Gt 11))]) (St 12)<|fo (u2 (Zbl 217 2 24) (Gt 8) (Gt 12)) (St 13)<|mM 13 6<|Z8)
 ZF))
def Z21 : Yd := Uz Zs (fun t h => .ok (Gt 2 t) h)
 (Z2 (Z7<|fo (ZC (kD (.v (.slice none 0 0)))) (St 2)<|Z8)
 (Z2 (Z2 (Z7<|mM 0 3<|fo (Zq YD .eql 161 (.tmp 3) (.const (.slice none 0 0)) (Gt 3) (kD (.v (.slice none 0 0)))) (St 4)<|Z8)
 (Zt (Gt 4) (Z2 (Z7<|fo (ZC (kD (.v (.slice none 0 0)))) (St 2)<|Z8)
 ZF) ZJ))
 (Z2 (Z7<|fo (XK 217 0 [] []) (St 5)<|mM 0 6<|fo (u2 (Zbl 217 2 24) (Gt 5) (Gt 6)) (St 7)<|mM 7 2<|Z8)
 ZF)))
theorem Zmh : ∀ {k : Nat} {cs : List D}, Zf8 k cs = true → cs.length = k * 2 ∧ Y8 cs = true
  | 0, [], _ => ⟨rfl, rfl⟩
  | 0, _ :: _, h => by simp [Zf8] at h
  | k + 1, [], h => by simp [Zf8] at h
  | k + 1, .str s :: .int .u64 n :: r, h => by
    obtain ⟨h1, h2⟩ := Zmh (k := k) (cs := r) h
    refine ⟨by rw [List.length_cons, List.length_cons, h1]; omega, ?_⟩
    rw [← h2]
    rfl
theorem vc119n (h119 : T 119 = Z21) (i119 : ∀ h, Zfu E YD .eql 161 (.tmp 3) (.const (.slice none 0 0)) (.v (.slice none 0 0)) (.v (.slice none 0 0)) h = .ok (.v (.bool true)) h) (hq : Q (.v (.slice none 0 0)) h) : VC E T 119 [.v (.slice none 0 0)] h Q R := by
  refine Zp h119 ?_
  unfold Zs
  repeat' (with_reducible (first | refine Za ?_ | refine Zb ?_ | refine Zk ?_ | refine Zj ?_ | refine Zd ?_ | refine Z3 ?_ | refine Zc ?_ | refine Zl ?_ | refine Z9 ?_ | refine Z4 ?_ | refine Ze ?_ | simp (maxSteps := 2000000) (disch := first | assumption | omega | (simp only [Z1, Z0, List.length_cons, List.length_nil, List.length_append, List.length_take, List.length_drop]; omega) | fail) only [go_sem, -Int.reduceOfNat, *] | ((first | refine Zn ?_ ?_ | refine Zh ?_ ?_ | refine Zm ?_ ?_ | refine Zf ?_ ?_ | refine Zg ?_ ?_ | refine Z5 ?_ ?_) <;> intro _ <;> (try (exfalso; omega))) | (show Q _ _; exact hq) | assumption | exact trivial | (show _ < _; omega) | (show _ ≤ _; omega) | (show ¬ (_ : Nat) = _; omega) | (show (_ : Nat) ≠ _; omega) | (show (_ : Nat) = _; omega) | (intro _; intros) | (refine ⟨_, by assumption, ?_⟩) | refine And.intro ?_ ?_))
theorem oTip_0 {e size bytes k m : Nat} {ys : List D} {h : H} (h1 : m * bytes ≤ 140737488355328) (h2 : m ≤ 140737488355328) : Zz3 (some (.tip 0 e)) e size bytes k 0 m [] ys h = .ok (.sl k m ys) (YX h k (.tip m e)) := by
  have := Zid (e := e) (size := size) (bytes := bytes) (k := k) (n := 0) (m := m) (cs := []) (ys := ys) (h := h) (by simp) (by simpa using h1) (by simpa using h2)
  simpa using this
theorem vc119s (h119 : T 119 = Z21) {k : Nat} {cs : List D} (i119 : ∀ h, Zfu E YD .eql 161 (.tmp 3) (.const (.slice none 0 0)) (.sl 0 k cs) (.v (.slice none 0 0)) h = .ok (.v (.bool false)) h) (hk : k ≤ 1000000) (hl : cs.length = k * 2) (ho : Y8 cs = true) (hq : ∀ h' id, hget h'.mem id = some (.tip k 217) → id < h'.next → Q (.sl id k cs) h') : VC E T 119 [.sl 0 k cs] h Q R := by
  rcases Nat.eq_zero_or_pos k with rfl | hp
  · have hc : cs = [] := List.eq_nil_of_length_eq_zero (by omega)
    subst hc
    refine Zp h119 ?_
    unfold Zs
    repeat' (with_reducible (first | refine Za ?_ | refine Zb ?_ | refine Zk ?_ | refine Zj ?_ | refine Zd ?_ | refine Z3 ?_ | refine Zc ?_ | refine Zl ?_ | refine Z9 ?_ | refine Z4 ?_ | refine Ze ?_ | simp (maxSteps := 2000000) (disch := first | assumption | omega | (simp only [Z1, Z0, List.length_cons, List.length_nil, List.length_append, List.length_take, List.length_drop]; omega) | fail) only [go_sem, -Int.reduceOfNat, *, XP] | ((first | refine Zn ?_ ?_ | refine Zh ?_ ?_ | refine Zm ?_ ?_ | refine Zf ?_ ?_ | refine Zg ?_ ?_ | refine Z5 ?_ ?_) <;> intro _ <;> (try (exfalso; omega))) | (show Q _ _; refine hq _ _ ?_ ?_) | assumption | exact trivial | (show _ < _; omega) | (show _ ≤ _; omega) | (show ¬ (_ : Nat) = _; omega) | (show (_ : Nat) ≠ _; omega) | (show (_ : Nat) = _; omega) | (intro _; intros) | (refine ⟨_, by assumption, ?_⟩) | refine And.intro ?_ ?_))
  · have hz : decide (k = 0) = false := decide_eq_false (by omega)
    refine Zp h119 ?_
    unfold Zs
    repeat' (with_reducible (first | refine Za ?_ | refine Zb ?_ | refine Zk ?_ | refine Zj ?_ | refine Zd ?_ | refine Z3 ?_ | refine Zc ?_ | refine Zl ?_ | refine Z9 ?_ | refine Z4 ?_ | refine Ze ?_ | simp (maxSteps := 2000000) (disch := first | assumption | omega | (simp only [Z1, Z0, List.length_cons, List.length_nil, List.length_append, List.length_take, List.length_drop]; omega) | fail) only [go_sem, -Int.reduceOfNat, *, oTip_0] | ((first | refine Zn ?_ ?_ | refine Zh ?_ ?_ | refine Zm ?_ ?_ | refine Zf ?_ ?_ | refine Zg ?_ ?_ | refine Z5 ?_ ?_) <;> intro _ <;> (try (exfalso; omega))) | (show Q _ _; refine hq _ _ ?_ ?_) | assumption | exact trivial | (show _ < _; omega) | (show _ ≤ _; omega) | (show ¬ (_ : Nat) = _; omega) | (show (_ : Nat) ≠ _; omega) | (show (_ : Nat) = _; omega) | (intro _; intros) | (refine ⟨_, by assumption, ?_⟩) | refine And.intro ?_ ?_))
theorem vc86n (h119 : T 119 = Z21) (h86 : T 86 = q86) (i119 : ∀ h, Zfu E YD .eql 161 (.tmp 3) (.const (.slice none 0 0)) (.v (.slice none 0 0)) (.v (.slice none 0 0)) h = .ok (.v (.bool true)) h) {s : List Nat} {n : Int} (hq : ∀ h' id, Q (.sl id 1 [.str s, .int .u64 n]) h') : VC E T 86 [.v (.slice none 0 0), .str s, .int .u64 n] h Q R := by
  have ha : Y8 [.str s, .int .u64 n] = true := rfl
  refine Zp h86 ?_
  unfold Zs
  repeat' (with_reducible (first | refine Za ?_ | refine Zb ?_ | refine Zk ?_ | refine Zj ?_ | refine Zd ?_ | refine Z3 ?_ | refine Zc ?_ | refine Zl ?_ | refine Z9 ?_ | refine Z4 ?_ | refine Ze ?_ | refine vc119n h119 (by assumption) ?_ | simp (maxSteps := 2000000) (disch := first | assumption | omega | (simp only [Z1, Z0, List.length_cons, List.length_nil, List.length_append, List.length_take, List.length_drop]; omega) | fail) only [go_sem, -Int.reduceOfNat, *, Zgb] | ((first | refine Zn ?_ ?_ | refine Zh ?_ ?_ | refine Zm ?_ ?_ | refine Zf ?_ ?_ | refine Zg ?_ ?_ | refine Z5 ?_ ?_) <;> intro _ <;> (try (exfalso; omega))) | (show Q _ _; refine hq _ _) | assumption | exact trivial | (show _ < _; omega) | (show _ ≤ _; omega) | (show ¬ (_ : Nat) = _; omega) | (show (_ : Nat) ≠ _; omega) | (show (_ : Nat) = _; omega) | (intro _; intros) | (refine ⟨_, by assumption, ?_⟩) | refine And.intro ?_ ?_))
theorem vc86s (h119 : T 119 = Z21) (h86 : T 86 = q86) {k : Nat} {cs : List D} (i119 : ∀ h, Zfu E YD .eql 161 (.tmp 3) (.const (.slice none 0 0)) (.sl 0 k cs) (.v (.slice none 0 0)) h = .ok (.v (.bool false)) h) (hk : k ≤ 1000000) (hl : cs.length = k * 2) (ho : Y8 cs = true) {s : List Nat} {n : Int} (hq : ∀ h' id, Q (.sl id (k + 1) (cs ++ [.str s, .int .u64 n])) h') : VC E T 86 [.sl 0 k cs, .str s, .int .u64 n] h Q R := by
  have ha : Y8 [.str s, .int .u64 n] = true := rfl
  refine Zp h86 ?_
  unfold Zs
  repeat' (with_reducible (first | refine Za ?_ | refine Zb ?_ | refine Zk ?_ | refine Zj ?_ | refine Zd ?_ | refine Z3 ?_ | refine Zc ?_ | refine Zl ?_ | refine Z9 ?_ | refine Z4 ?_ | refine Ze ?_ | refine vc119s h119 (by assumption) (by assumption) (by assumption) (by assumption) ?_ | simp (maxSteps := 2000000) (disch := first | assumption | omega | (simp only [Z1, Z0, List.length_cons, List.length_nil, List.length_append, List.length_take, List.length_drop]; omega) | fail) only [go_sem, -Int.reduceOfNat, *, Zid] | ((first | refine Zn ?_ ?_ | refine Zh ?_ ?_ | refine Zm ?_ ?_ | refine Zf ?_ ?_ | refine Zg ?_ ?_ | refine Z5 ?_ ?_) <;> intro _ <;> (try (exfalso; omega))) | (intro h2 id2 f1 f2) | (show Q _ _; refine hq _ _) | assumption | exact trivial | (show _ < _; omega) | (show _ ≤ _; omega) | (show ¬ (_ : Nat) = _; omega) | (show (_ : Nat) ≠ _; omega) | (show (_ : Nat) = _; omega) | (intro _; intros) | (refine ⟨_, by assumption, ?_⟩) | refine And.intro ?_ ?_))
end Run
end
end Go.Abs
namespace Go.Abs
noncomputable section
namespace Run
open Go.Proofs Go.RowKit
theorem Z18 (s : ByteArray) : (ZQ s).reverse = ZQ ⟨s.data.reverse⟩ := by simp [ZQ]
theorem Zvb (s : List UInt8) : ∀ c, Zzj (s.map (·.toNat)) c = (Lib.repeatL s c).map (·.toNat)
  | 0 => rfl
  | c + 1 => by simp only [Zzj, Lib.repeatL, List.map_append, Zvb s c]
theorem Zpu (c : UInt8) : ∀ l : List UInt8, Zjp c.toNat (l.map (·.toNat)) = (l.dropWhile (· == c)).map (·.toNat)
  | [] => rfl
  | b :: r => by
    have ih := Zpu c r
    by_cases h : b = c
    · subst h
      simp [Zjp, ih]
    · have h1 : Nat.beq b.toNat c.toNat = false := by
        cases hb : Nat.beq b.toNat c.toNat with
        | false => rfl
        | true => exact absurd (UInt8.toNat_inj.1 (Nat.eq_of_beq_eq_true hb)) h
      simp [Zjp, h1, h]
theorem Z16 (s : ByteArray) (c : UInt8) : Zjp c.toNat (Zjp c.toNat (ZQ s).reverse).reverse = ZQ ⟨(Lib.trimB s.data.toList c).toArray⟩ := by
  simp only [ZQ, Lib.trimB, Lib.trimLeftB, Lib.trimRightB]
  rw [← List.map_reverse, Zpu, ← List.map_reverse, Zpu]
theorem Zii {ds : List D} {h h' : H} {p : Bool} {d : D} (ho : Zce ds h = .mk p d h') : p = false ∧ h' = h ∧ ∃ s, ds = [.str s] ∧ d = .str s.reverse ∧ s.length ≤ 9223372036854775807 := by
  unfold Zce at ho
  split at ho
  · rename_i s
    cases hq : Nat.ble s.length 9223372036854775807 with
    | false => rw [hq] at ho; cases p <;> cases ho
    | true =>
      rw [hq] at ho
      cases p with
      | true => cases ho
      | false => cases ho; exact ⟨rfl, rfl, s, rfl, rfl, Nat.le_of_ble_eq_true hq⟩
  · cases p <;> cases ho
theorem sim227 : ZS Tryz.prog 227 Zce glob := Zew (enters_of Tryz.func227 (by kernel_rfl) rfl) fun ds h p d h' ho => by
  obtain ⟨h1, h2, s, rfl, rfl, h3⟩ := Zii ho
  refine ⟨h1, h2, fun g args hargs w => ?_⟩
  obtain ⟨v1, rfl, r1⟩ := hargs.one'
  obtain ⟨b, rfl, rfl⟩ := r1.str'
  refine ⟨_, ?_, TurnX.turn_any b w (by simpa [ZQ] using h3)⟩
  rw [Z18]
  exact .str _
theorem Zgd {ds : List D} {h h' : H} {p : Bool} {d : D} (ho : VE ds h = .mk p d h') : p = false ∧ h' = h ∧ ∃ s k c, ds = [.str s, .int k (.ofNat c)] ∧ k = .i64 ∧ d = .str (Zzj s c) ∧ s.length * c ≤ 140737488355328 ∧ c ≤ 9223372036854775807 := by
  unfold VE at ho
  split at ho
  · rename_i s c
    cases hq : Nat.ble (s.length * c) 140737488355328 && Nat.ble c 9223372036854775807 with
    | false => rw [hq] at ho; cases p <;> cases ho
    | true =>
      rw [hq] at ho
      simp only [Bool.and_eq_true] at hq
      cases p with
      | true => cases ho
      | false => cases ho; exact ⟨rfl, rfl, s, _, c, rfl, rfl, rfl, Nat.le_of_ble_eq_true hq.1, Nat.le_of_ble_eq_true hq.2⟩
  · cases p <;> cases ho
theorem sim50 : ZS Tryz.prog 50 VE glob := Zew (enters_of Tryz.func50 (by kernel_rfl) rfl) fun ds h p d h' ho => by
  obtain ⟨h1, h2, s, k, c, rfl, rfl, rfl, h3, h4⟩ := Zgd ho
  refine ⟨h1, h2, fun g args hargs w => ?_⟩
  obtain ⟨v1, v2, rfl, r1, r2⟩ := hargs.two'
  obtain ⟨b, rfl, rfl⟩ := r1.str'
  rw [r2.int']
  refine ⟨_, ?_, Tryz.strings_Repeat b c w h4 (by simpa [ZQ] using h3)⟩
  have := Zvb b.data.toList c
  simp only [ZQ]
  rw [this]
  exact .str ⟨(Lib.repeatL b.data.toList c).toArray⟩
theorem Zhe {ds : List D} {h h' : H} {p : Bool} {d : D} (ho : Zbm ds h = .mk p d h') : p = false ∧ h' = h ∧ ∃ s c, ds = [.str s, .str [c]] ∧ d = .str (Zjp c (Zjp c s.reverse).reverse) ∧ s.length ≤ 9223372036854775807 ∧ c < 128 := by
  unfold Zbm at ho
  split at ho
  · rename_i s c
    cases hq : Nat.ble s.length 9223372036854775807 && Nat.blt c 128 with
    | false => rw [hq] at ho; cases p <;> cases ho
    | true =>
      rw [hq] at ho
      simp only [Bool.and_eq_true] at hq
      cases p with
      | true => cases ho
      | false => cases ho; exact ⟨rfl, rfl, s, c, rfl, rfl, Nat.le_of_ble_eq_true hq.1, Nat.le_of_ble_eq_true hq.2⟩
  · cases p <;> cases ho
theorem sim228 : ZS Tryz.prog 228 Zbm glob := Zew (enters_of Tryz.func228 (by kernel_rfl) rfl) fun ds h p d h' ho => by
  obtain ⟨h1, h2, s, c, rfl, rfl, h3, h4⟩ := Zhe ho
  refine ⟨h1, h2, fun g args hargs w => ?_⟩
  obtain ⟨v1, v2, rfl, r1, r2⟩ := hargs.two'
  obtain ⟨b, rfl, rfl⟩ := r1.str'
  obtain ⟨u, rfl, hu⟩ := r2.str'
  obtain ⟨x, hx, rfl⟩ : ∃ x : UInt8, u = ⟨#[x]⟩ ∧ c = x.toNat := by
    obtain ⟨⟨l⟩⟩ := u
    rcases l with _ | ⟨x, _ | ⟨y, l⟩⟩
    · simp [ZQ] at hu
    · exact ⟨x, rfl, by simpa [ZQ] using hu⟩
    · simp [ZQ] at hu
  subst hx
  refine ⟨_, ?_, (Tryz.strings_Trim_one b x h4 w (by simpa [ZQ] using h3)).mono fun e w' ⟨e1, e2⟩ => ⟨e1, ?_⟩⟩
  · rw [Z16]
    exact .str _
  · rcases e2 with rfl | rfl
    · exact Below.refl _ _
    · exact Below.drew (Below.refl _ _)
theorem Zp1 : ∀ ds h, Xc h (Zce ds h) := U6 fun ds h p d h' ho => (Zii ho).2.1
theorem Zmp : ∀ ds h, Xc h (VE ds h) := U6 fun ds h p d h' ho => (Zgd ho).2.1
theorem Zno : ∀ ds h, Xc h (Zbm ds h) := U6 fun ds h p d h' ho => (Zhe ho).2.1
end Run
end
end Go.Abs
namespace Go.Abs
noncomputable section
namespace Run
variable {E : Env} {T : Nat → Yd}
set_option maxHeartbeats 4000000
set_option maxRecDepth 100000
variable {h : H} {Q : D → H → Prop} {R : Y1}
open Go.Proofs Go.RowKit
theorem Zkg {f : D → Option D} {d t : D} {r l : List D} (h1 : f d = some t) (h2 : XJ f r = some l) : XJ f (d :: r) = some (t :: l) := by
  simp only [XJ, h1, h2]
theorem Zoh {P : Program} {h : H} : ∀ {k : Nat} {cs : List D}, Zf8 k cs = true → XJ (ZB P h 1) cs = some cs
  | 0, [], _ => rfl
  | 0, _ :: _, h => by simp [Zf8] at h
  | k + 1, [], h => by simp [Zf8] at h
  | k + 1, .str s :: .int .u64 n :: r, h => by
    have ih := Zoh (P := P) (h := ‹H›) (k := k) (cs := r) h
    exact Zkg rfl (Zkg rfl ih)
theorem Zoi : ∀ {k : Nat} {cs : List D} {s : List Nat} {n : Int}, Zf8 k cs = true → Zf8 (k + 1) (cs ++ [.str s, .int .u64 n]) = true
  | 0, [], _, _, _ => rfl
  | 0, _ :: _, _, _, h => by simp [Zf8] at h
  | k + 1, [], _, _, h => by simp [Zf8] at h
  | k + 1, .str s :: .int .u64 n :: r, s', n', h => Zoi (k := k) (cs := r) (s := s') (n := n') h
theorem Zpg {P : Program} {h : H} {id k : Nat} {cs : List D} (ho : Zf8 k cs = true) : ZB P h 2 (.sl id k cs) = some (.sl 0 k cs) := by
  show (match XJ (ZB P h 1) cs with
    | some ts => some (D.sl 0 k ts)
    | none => none) = _
  rw [Zoh ho]
theorem Zki {ds : List D} {h h' : H} {p : Bool} {d : D} (ho : Zcd ds h = .mk p d h') : p = false ∧ h' = h ∧ ∃ s n, (ds = [.v (.slice none 0 0), .str s, .int .u64 n] ∧ d = .sl 0 1 [.str s, .int .u64 n]) ∨ ∃ k cs, ds = [.sl 0 k cs, .str s, .int .u64 n] ∧ d = .sl 0 (k + 1) (cs ++ [.str s, .int .u64 n]) ∧ k ≤ 1000000 ∧ Zf8 k cs = true := by
  unfold Zcd at ho
  split at ho
  · rename_i s n
    cases p with
    | true => cases ho
    | false => cases ho; exact ⟨rfl, rfl, s, n, Or.inl ⟨rfl, rfl⟩⟩
  · rename_i k cs s n
    cases hq : Nat.ble k 1000000 && Zf8 k cs with
    | false => rw [hq] at ho; cases p <;> cases ho
    | true =>
      rw [hq] at ho
      simp only [Bool.and_eq_true] at hq
      cases p with
      | true => cases ho
      | false => cases ho; exact ⟨rfl, rfl, s, n, Or.inr ⟨k, cs, rfl, rfl, Nat.le_of_ble_eq_true hq.1, hq.2⟩⟩
  · cases p <;> cases ho
theorem Zp0 : ∀ ds h, Xc h (Zcd ds h) := U6 fun ds h p d h' ho => (Zki ho).2.1
theorem Zyf {E : Env} {T : Nat → Yd} {f : Nat} {ds : List D} {h : H} {Q : D → H → Prop} (hc : VC E T f ds h Q Z0c) : WC E T f ds h Q := by
  obtain ⟨o, he, ho⟩ := hc
  cases o with
  | ok d h' => exact ⟨d, h', he, ho⟩
  | panic d h' => exact ho.elim
  | fail w => exact ho.elim
theorem sim86 : ZS Tryz.prog 86 Zcd glob := by
  have hent := fun args w => enters_of (args := args) (w := w) Tryz.func86 (by kernel_rfl) rfl
  refine Zkj Zot hent fun ds h p d h' ho => ?_
  obtain ⟨rfl, rfl, s, n, hc⟩ := Zki ho
  have hwc : WC env0 (Zu6 Zih TA) 86 ds Zcf (fun d' h' => ZB Tryz.prog h' 2 d' = some d) := by
    rcases hc with ⟨rfl, rfl⟩ | ⟨k, cs, rfl, rfl, hk, hok⟩
    · exact Zyf (vc86n (by kernel_rfl) (by kernel_rfl) (fun h => rfl) fun h' id => Zpg rfl)
    · obtain ⟨hl, h1⟩ := Zmh hok
      exact Zyf (vc86s (by kernel_rfl) (by kernel_rfl) (fun h => rfl) hk hl h1 fun h' id => Zpg (Zoi hok))
  refine ⟨rfl, rfl, ?_, fun w T args ok hgl hargs => ?_⟩
  · have hs : ∀ s : List Nat, Zh5 (.str s) := fun s => ⟨1, fun P h => rfl⟩
    have hn : ∀ n : Int, Zh5 (.int .u64 n) := fun n => ⟨1, fun P h => rfl⟩
    rcases hc with ⟨rfl, rfl⟩ | ⟨k, cs, rfl, rfl, hk, hok⟩
    · intro x hx
      simp only [List.mem_cons, List.not_mem_nil, or_false] at hx
      rcases hx with rfl | rfl | rfl
      · exact ⟨1, fun P h => rfl⟩
      · exact hs _
      · exact hn _
    · intro x hx
      simp only [List.mem_cons, List.not_mem_nil, or_false] at hx
      rcases hx with rfl | rfl | rfl
      · exact ⟨2, fun P h => Zpg hok⟩
      · exact hs _
      · exact hn _
  · refine (Ztm told0 (Zln Z1q Zih) ok hgl hwc hargs hent).mono ?_
    rintro e w' ⟨d', h', v, T', hq, rfl, hok, _, hold, hbel, hrel⟩
    exact ⟨v, T', rfl, hok, hold, hbel, hrel 2 d hq⟩
theorem Zd7 {libs : Nat → Option (List D → H → O D)} (ht : Told Tryz.prog glob (Zhh Tryz.prog glob libs)) {k : Nat} {lf : List D → H → O D} (hs : ZS Tryz.prog k lf glob) (hg : ∀ ds h, Xc h (lf ds h)) : Told Tryz.prog glob (Zhh Tryz.prog glob fun f => bq (Nat.beq f k) (some lf) (libs f)) := by
  refine told Tryz.prog glob _ Zsn (fun f lf h => ?_) (fun f lf h => ?_)
  all_goals (rw [Z1k] at h)
  · rcases Ya h with ⟨hf, rfl⟩ | h
    · rw [Nat.eq_of_beq_eq_true hf]; exact hs
    · exact ht.lib f lf h
  · rcases Ya h with ⟨hf, rfl⟩ | h
    · exact hg
    · exact ht.libgrow f lf h
theorem told1 : Told Tryz.prog glob (Zhh Tryz.prog glob libs1) := Zd7 (Zd7 (Zd7 (Zd7 told0 sim86 Zp0) sim228 Zno) sim227 Zp1) sim50 Zmp
end Run
end
end Go.Abs
