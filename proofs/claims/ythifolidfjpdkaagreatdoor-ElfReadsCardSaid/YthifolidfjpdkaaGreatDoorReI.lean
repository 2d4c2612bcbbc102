/- Numbers, bytes: walks of the program. -/
import Derived.Test.YthifolidfjpdkaaGreatDoorReH
set_option linter.unusedVariables false
set_option linter.unusedSimpArgs false
namespace Go.Abs
noncomputable section
namespace Run
variable {E : Env} {T : Nat → Yd}
set_option maxHeartbeats 4000000
set_option maxRecDepth 100000
attribute [local go_sem] Zdv UJ Zdx UH UQ UG UM Zdu UL UK Zdt Wa US W7 UN V1 W9 YL V3 Zbi UU V0 UO UR UT V4 X8 V7 UP W8 W6 UI V5 V6 Zdz Zd0 UW Zaf Zab Wc Wb YM Zaa UZ Zdy Va Zai Zac Zag Vd Zad UX Zae UV V9 UY Vb Zah V8 Vc Zd1 Zak Zd5 Zaj Zd2 Zi0 Zi1 Ziy Ziz Zd3 Zd4 Za1 Za0 Za2 Za7 Za6 Za8 Zek Zej VA VB Vz Zd9 Vx Vy Vw Vt Zaw Wk Vq Vr Wm Wn Zaz Zay Zax Wj Xo W1 Zao Zeb Zeg Zpv Xr Xq Vo Zau Wo Vp Yu Y5 Xt YS WK patch YQ YR Xn Xm Wy Wx X1 X2 W5 VG Wu Xu YV Xp Wr XP Xs YO Yf YT mem_cons Zei Zea Xk Option.map_some Option.map_none Vv Wp Ws Wq Zav Vu Wl Vs YP X4 XA Xv XB Wz Xw Xz Xx YW Xy Vl Wh Vn Vi Zas Vj Vm Vk Wi Wg YD VT WH Zfx Zcy Zc3 Zb3 Zeo Zsi Xg XU VH WQ YN Xl YU Yv Yn X7 ZZ X5 List.drop_succ_cons List.drop_zero List.drop_nil List.take_succ_cons List.take_zero List.take_nil List.length_cons List.length_nil List.length_append List.cons_append List.nil_append Nat.reduceAdd Nat.reduceEqDiff Nat.reduceLeDiff Nat.reduceLT List.cons.injEq reduceCtorEq eq_self not_true_eq_false not_false_eq_true and_false false_and true_or or_true decide_true decide_false Bool.and_self Bool.and_true Bool.true_and Bool.true_or Bool.or_true Bool.false_or Bool.or_false Bool.false_and Bool.and_false Bool.not_true Bool.not_false cond_true cond_false true_and and_true Zex Zef Zen reduceIte Nat.add_zero Nat.zero_add Nat.add_sub_cancel Nat.reduceMul Nat.reduceSub Nat.reduceBEq List.map_cons List.map_nil Z1 Z0 Yw ZG Zr Zv Wd Zd6 XQ Yo Y0 Wf We XH XG and_assoc exists_and_left D.str.injEq Nat.lt_irrefl Nat.not_lt_zero true_implies false_implies implies_true forall_const ge_iff_le gt_iff_lt Nat.sub_zero List.append_assoc Option.some.injEq AObj.cells.injEq D.int.injEq D.ptr.injEq Int.ofNat.injEq exists_eq_left' D.v.injEq Value.bool.injEq D.agg.injEq Nat.mul_one
section
variable {h : H} {Q : D → H → Prop} {R : Y1}
section
variable {F : XF} {crc : Zkz} {ds de dt : D} {inp : List Nat} {pr ps p e0 n : Nat} {env : Ev} {fp : D}
theorem Znz (hT : RT E T F ds de dt) {k : Nat} (hp : p ≤ e0) (he : e0 ≤ inp.length) (hl : inp.length ≤ 1048576) (hr : hget h.mem pr = some (RC (Y7 ds de dt) inp p e0 n)) (h1 : e0 - p < k → R (Zfv p 20) h) (h2 : k ≤ e0 - p → Q (.str (sub inp p k)) (YX h pr (RC (Y7 ds de dt) inp (p + k) e0 n))) : VC E T 172 [.ptr pr 0, .int .u64 (.ofNat k)] h Q R := vc172 hT.h57 hT.h172 hp he hl hr rfl h1 h2
theorem Zan (hT : RT E T F ds de dt) {a : Nat} {u : Nat × Nat} (hu : Zi7 F env (.ofNat a) = u) (h9 : u.2 ≠ 99) (hl : env.length ≤ 1000) (hr : hget h.mem pr = some (RC (Y7 ds de dt) inp p e0 n)) (hs : hget h.mem ps = some (Zfz pr env)) (n1 : pr < h.next) (n2 : ps < h.next)
    (h1 : u.2 = 0 → ∀ h', h.next ≤ h'.next → (∀ l, l < h.next → hget h'.mem l = hget h.mem l) → Q (.int .u64 (.ofNat u.1)) h') (h2 : u.2 ≠ 0 → ∀ h', h.next ≤ h'.next → (∀ l, l < h.next → hget h'.mem l = hget h.mem l) → R (Zfv p u.2) h') : VC E T 125 [.ptr ps 0, .int .i64 (.ofNat a)] h Q R := vc125 hT.et hT.h57 hT.h125 (by omega) hT.lenE hu h9 hr hs n1 n2 h1 h2
abbrev Zkr (E : Env) (T : Nat → Yd) (ds de dt : D) (inp : List Nat) (pr e0 n : Nat) : Prop := ∀ {h : H} {p : Nat} {Q : D → H → Prop} {R : Y1}, hget h.mem pr = some (RC (Y7 ds de dt) inp p e0 n) → Q (.tup []) (YX h pr (RC (Y7 ds de dt) inp p e0 (n + 1))) → VC E T 85 [.ptr pr 0] h Q R
abbrev Zgq (E : Env) (T : Nat → Yd) (ds de dt : D) (inp : List Nat) (pr e0 n : Nat) : Prop := ∀ {h : H} {p : Nat} {Q : D → H → Prop} {R : Y1}, hget h.mem pr = some (RC (Y7 ds de dt) inp p e0 n) → R (Zfv p 10) h → VC E T 85 [.ptr pr 0] h Q R
theorem Zhq (hT : RT E T F ds de dt) (hn : n < 1048576) : Zkr E T ds de dt inp pr e0 n := fun a1 a2 => Zrx hT (by omega) a1 (fun h => absurd h (by omega)) (fun _ => a2)
theorem Ze9 (hT : RT E T F ds de dt) (hn : n = 1048576) : Zgq E T ds de dt inp pr e0 n := fun a1 a2 => Zrx hT (by omega) a1 (fun _ => a2) (fun h => absurd h (by omega))
theorem Z0m (hT : RT E T F ds de dt) (hb : ∀ b ∈ inp, b < 256) {a : Nat} {t : XT'} (hx : F.ts[a]? = some t) (hk0 : t.k = 0) (hL : inp.length ≤ 1048576) (at_ : At_ inp pr ps p e0 n env (Y7 ds de dt) h) (hq : KQ (if t.size > e0 - p then .err p 20 else WY (U1 (Zkv t.lit (sub inp p t.size))) (p + t.size) n) (Y7 ds de dt) inp pr e0 h Q R) : VC E T 123 [.ptr ps 0, .int .i64 (.ofNat a)] h Q R := by
  have hsz := hT.ints t (List.mem_of_getElem? hx) hk0
  obtain ⟨c, r, hc, hz, hix⟩ := Un hT hx
  obtain ⟨dk, rfl, hk⟩ := hc
  have hdc := Zy hk
  have hdo := ZP hk
  have htc := Zy hT.rowT
  have hto := ZP hT.rowT
  have hKD := hT.h123
  have hVI := hT.h122
  have hVB := hT.h11
  have at2 := at_
  obtain ⟨hr, hs, np, ns, ne, hp, he, hn, hl⟩ := at_
  have hI : ∀ {h : H} {Q : D → H → Prop} {R : Y1}, hget h.mem pr = some (RC (Y7 ds de dt) inp p e0 n) → pr < h.next → (e0 - p < t.size → R (Zfv p 20) h) → (t.size ≤ e0 - p → ∀ h', h.next ≤ h'.next → FRr h h' pr → hget h'.mem pr = some (RC (Y7 ds de dt) inp (p + t.size) e0 n) → Q (.int .u64 (.ofNat (Zkv t.lit (sub inp p t.size)))) h') → VC E T 121 [.ptr pr 0, .int .i64 (.ofNat t.size), .v (.bool t.lit)] h Q R := fun a1 a2 a3 a4 => vc121 hT.h57 hT.h172 hT.h159 hT.h111 hT.h78 hT.h227 hT.h171 hT.h121 hsz hb hp he hL a1 a2 rfl a3 a4
  clear at2 hb
  unfold WY at hq
  by_cases hs1 : t.size > e0 - p
  · rw [if_pos hs1, ZU] at hq
    clear hT hx hk hz hVI hVB
    refine Zp hKD ?_
    unfold Zs
    repeat' (with_reducible (first | refine Za ?_ | refine Zb ?_ | refine Zk ?_ | refine Zj ?_ | refine Zd ?_ | refine Z3 ?_ | refine Zc ?_ | refine Zl ?_ | refine Z9 ?_ | refine Z4 ?_ | refine Ze ?_ | refine hI ?_ ?_ ?_ ?_ | simp (maxSteps := 2000000) (disch := first | assumption | omega | (simp only [Z1, Z0, List.length_cons, List.length_nil, List.length_append, List.length_take, List.length_drop]; omega) | fail) only [go_sem, -Int.reduceOfNat, *, hk0, FRr, XD] | ((first | refine Zn ?_ ?_ | refine Zh ?_ ?_ | refine Zm ?_ ?_ | refine Zf ?_ ?_ | refine Zg ?_ ?_ | refine Z5 ?_ ?_) <;> intro _) | (refine hq _ ?_ ?_) | (exfalso; omega) | (intro hle) | assumption | exact trivial | (show _ < _; omega) | (show _ ≤ _; omega) | (show ¬ (_ : Nat) = _; omega) | (show (_ : Nat) ≠ _; omega) | (show (_ : Nat) = _; omega) | (intro _; intros) | (refine ⟨_, by assumption, ?_⟩) | refine And.intro ?_ ?_))
  rw [if_neg hs1] at hq
  by_cases hn1 : n ≥ 1048576
  · rw [if_pos hn1, ZU] at hq
    have hO : Zgq E T ds de dt inp pr e0 n := Ze9 hT (show n = 1048576 by omega)
    clear hT hx hk hz hVI hVB
    refine Zp hKD ?_
    unfold Zs
    repeat' (with_reducible (first | refine Za ?_ | refine Zb ?_ | refine Zk ?_ | refine Zj ?_ | refine Zd ?_ | refine Z3 ?_ | refine Zc ?_ | refine Zl ?_ | refine Z9 ?_ | refine Z4 ?_ | refine Ze ?_ | refine hI ?_ ?_ ?_ ?_ | refine hO (p := p + t.size) ?_ ?_ | simp (maxSteps := 2000000) (disch := first | assumption | omega | (simp only [Z1, Z0, List.length_cons, List.length_nil, List.length_append, List.length_take, List.length_drop]; omega) | fail) only [go_sem, -Int.reduceOfNat, *, hk0, FRr, XD] | ((first | refine Zn ?_ ?_ | refine Zh ?_ ?_ | refine Zm ?_ ?_ | refine Zf ?_ ?_ | refine Zg ?_ ?_ | refine Z5 ?_ ?_) <;> intro _) | (refine hq _ ?_ ?_) | (exfalso; omega) | (intro hle) | (rintro h1 n1 f1 m1) | assumption | exact trivial | (show _ < _; omega) | (show _ ≤ _; omega) | (show ¬ (_ : Nat) = _; omega) | (show (_ : Nat) ≠ _; omega) | (show (_ : Nat) = _; omega) | (intro _; intros) | (refine ⟨_, by assumption, ?_⟩) | refine And.intro ?_ ?_))
  · rw [if_neg hn1, Yx] at hq
    have hO : Zkr E T ds de dt inp pr e0 n := Zhq hT (show n < 1048576 by omega)
    clear hT hx hk hz hVB
    refine Zp hKD ?_
    unfold Zs
    repeat' (with_reducible (first | refine Za ?_ | refine Zb ?_ | refine Zk ?_ | refine Zj ?_ | refine Zd ?_ | refine Z3 ?_ | refine Zc ?_ | refine Zl ?_ | refine Z9 ?_ | refine Z4 ?_ | refine Ze ?_ | refine hI ?_ ?_ ?_ ?_ | refine hO (p := p + t.size) ?_ ?_ | refine vc122 hVI ?_ | simp (maxSteps := 2000000) (disch := first | assumption | omega | (simp only [Z1, Z0, List.length_cons, List.length_nil, List.length_append, List.length_take, List.length_drop]; omega) | fail) only [go_sem, -Int.reduceOfNat, *, hk0, FRr, XD] | ((first | refine Zn ?_ ?_ | refine Zh ?_ ?_ | refine Zm ?_ ?_ | refine Zf ?_ ?_ | refine Zg ?_ ?_ | refine Z5 ?_ ?_) <;> intro _) | (show Q _ _; refine hq _ _ _ _ _ Zf3 ?_ ?_ ?_) | (exfalso; omega) | (intro hle) | (rintro h1 n1 f1 m1) | assumption | exact trivial | (show _ < _; omega) | (show _ ≤ _; omega) | (show ¬ (_ : Nat) = _; omega) | (show (_ : Nat) ≠ _; omega) | (show (_ : Nat) = _; omega) | (intro _; intros) | (refine ⟨_, by assumption, ?_⟩) | refine And.intro ?_ ?_))
theorem Zxl (hT : RT E T F ds de dt) {a : Nat} {t : XT'} (hx : F.ts[a]? = some t) (hk0 : t.k = 11) (hL : inp.length ≤ 1048576) (at_ : At_ inp pr ps p e0 n env (Y7 ds de dt) h) (hq : KQ (WY Zla p n) (Y7 ds de dt) inp pr e0 h Q R) : VC E T 123 [.ptr ps 0, .int .i64 (.ofNat a)] h Q R := by
  obtain ⟨c, r, hc, hz, hix⟩ := Un hT hx
  obtain ⟨dk, rfl, hk⟩ := hc
  have hdc := Zy hk
  have hdo := ZP hk
  have htc := Zy hT.rowT
  have hto := ZP hT.rowT
  have hKD := hT.h123
  have hVI := hT.h122
  have hVB := hT.h11
  have at2 := at_
  obtain ⟨hr, hs, np, ns, ne, hp, he, hn, hl⟩ := at_
  unfold WY at hq
  by_cases hn1 : n ≥ 1048576
  · rw [if_pos hn1, ZU] at hq
    have hO : Zgq E T ds de dt inp pr e0 n := Ze9 hT (show n = 1048576 by omega)
    clear hT hx hk hz at2
    refine Zp hKD ?_
    unfold Zs
    repeat' (with_reducible (first | refine Za ?_ | refine Zb ?_ | refine Zk ?_ | refine Zj ?_ | refine Zd ?_ | refine Z3 ?_ | refine Zc ?_ | refine Zl ?_ | refine Z9 ?_ | refine Z4 ?_ | refine Ze ?_ | refine hO (p := p) ?_ ?_ | simp (maxSteps := 2000000) (disch := first | assumption | omega | (simp only [Z1, Z0, List.length_cons, List.length_nil, List.length_append, List.length_take, List.length_drop]; omega) | fail) only [go_sem, -Int.reduceOfNat, *, hk0] | ((first | refine Zn ?_ ?_ | refine Zh ?_ ?_ | refine Zm ?_ ?_ | refine Zf ?_ ?_ | refine Zg ?_ ?_ | refine Z5 ?_ ?_) <;> intro _) | (refine hq _ ?_ ?_) | assumption | exact trivial | (show _ < _; omega) | (show _ ≤ _; omega) | (show ¬ (_ : Nat) = _; omega) | (show (_ : Nat) ≠ _; omega) | (show (_ : Nat) = _; omega) | (intro _; intros) | (refine ⟨_, by assumption, ?_⟩) | refine And.intro ?_ ?_))
  · rw [if_neg hn1, Yx] at hq
    have hO : Zkr E T ds de dt inp pr e0 n := Zhq hT (show n < 1048576 by omega)
    clear hT hx hk hz at2
    refine Zp hKD ?_
    unfold Zs
    repeat' (with_reducible (first | refine Za ?_ | refine Zb ?_ | refine Zk ?_ | refine Zj ?_ | refine Zd ?_ | refine Z3 ?_ | refine Zc ?_ | refine Zl ?_ | refine Z9 ?_ | refine Z4 ?_ | refine Ze ?_ | refine hO (p := p) ?_ ?_ | simp (maxSteps := 2000000) (disch := first | assumption | omega | (simp only [Z1, Z0, List.length_cons, List.length_nil, List.length_append, List.length_take, List.length_drop]; omega) | fail) only [go_sem, -Int.reduceOfNat, *, hk0] | ((first | refine Zn ?_ ?_ | refine Zh ?_ ?_ | refine Zm ?_ ?_ | refine Zf ?_ ?_ | refine Zg ?_ ?_ | refine Z5 ?_ ?_) <;> intro _) | (show Q _ _; refine hq _ _ _ _ _ Zf3 ?_ ?_ ?_) | assumption | exact trivial | (show _ < _; omega) | (show _ ≤ _; omega) | (show ¬ (_ : Nat) = _; omega) | (show (_ : Nat) ≠ _; omega) | (show (_ : Nat) = _; omega) | (intro _; intros) | (refine ⟨_, by assumption, ?_⟩) | refine And.intro ?_ ?_))
theorem Zuf (hT : RT E T F ds de dt) {a : Nat} {t : XT'} (hx : F.ts[a]? = some t) (hk0 : t.k = 1) (hL : inp.length ≤ 1048576) (at_ : At_ inp pr ps p e0 n env (Y7 ds de dt) h) {i : Nat} (hi : t.ex = .ofNat i) {u : Nat × Nat} (hu : Zi7 F env (.ofNat i) = u) (hq : KQ (if u.2 = 0 then (if u.1 > e0 - p then .err p 20 else WY (Z3a (sub inp p u.1)) (p + u.1) n) else if u.2 = 99 then .oof else .err p u.2) (Y7 ds de dt) inp pr e0 h Q R) : VC E T 123 [.ptr ps 0, .int .i64 (.ofNat a)] h Q R := by
  obtain ⟨c, r, hc, hz, hix⟩ := Un hT hx
  obtain ⟨dk, rfl, hk⟩ := hc
  have hdc := Zy hk
  have hdo := ZP hk
  have htc := Zy hT.rowT
  have hto := ZP hT.rowT
  have hKD := hT.h123
  have hVI := hT.h122
  have hVB := hT.h11
  have at2 := at_
  obtain ⟨hr, hs, np, ns, ne, hp, he, hn, hl⟩ := at_
  by_cases u9 : u.2 = 99
  · rw [if_neg (by omega), if_pos u9] at hq; exact hq.elim
  have hRK : ∀ {h : H} {Q : D → H → Prop} {R : Y1}, hget h.mem pr = some (RC (Y7 ds de dt) inp p e0 n) → hget h.mem ps = some (Zfz pr env) → pr < h.next → ps < h.next → (u.2 = 0 → ∀ h', h.next ≤ h'.next → (∀ l, l < h.next → hget h'.mem l = hget h.mem l) → Q (.int .u64 (.ofNat u.1)) h') → (u.2 ≠ 0 → ∀ h', h.next ≤ h'.next → (∀ l, l < h.next → hget h'.mem l = hget h.mem l) → R (Zfv p u.2) h') → VC E T 125 [.ptr ps 0, .int .i64 (.ofNat i)] h Q R := fun a1 a2 a3 a4 a5 a6 => Zan hT hu u9 hl a1 a2 a3 a4 a5 a6
  clear hu
  by_cases u0 : u.2 = 0
  case neg =>
    rw [if_neg u0, if_neg u9, ZU] at hq
    have hRE : ∀ {h : H} {Q : D → H → Prop} {R : Y1}, hget h.mem pr = some (RC (Y7 ds de dt) inp p e0 n) → hget h.mem ps = some (Zfz pr env) → pr < h.next → ps < h.next → (∀ h', h.next ≤ h'.next → (∀ l, l < h.next → hget h'.mem l = hget h.mem l) → R (Zfv p u.2) h') → VC E T 125 [.ptr ps 0, .int .i64 (.ofNat i)] h Q R := fun a1 a2 a3 a4 a6 => hRK a1 a2 a3 a4 (fun c => absurd c u0) fun _ => a6
    clear hRK at2
    clear hT hx hk hz
    refine Zp hKD ?_
    unfold Zs
    repeat' (with_reducible (first | refine Za ?_ | refine Zb ?_ | refine Zk ?_ | refine Zj ?_ | refine Zd ?_ | refine Z3 ?_ | refine Zc ?_ | refine Zl ?_ | refine Z9 ?_ | refine Z4 ?_ | refine Ze ?_ | refine hRE ?_ ?_ ?_ ?_ ?_ | simp (maxSteps := 2000000) (disch := first | assumption | omega | (simp only [Z1, Z0, List.length_cons, List.length_nil, List.length_append, List.length_take, List.length_drop]; omega) | fail) only [go_sem, -Int.reduceOfNat, *, hk0, hi] | ((first | refine Zn ?_ ?_ | refine Zh ?_ ?_ | refine Zm ?_ ?_ | refine Zf ?_ ?_ | refine Zg ?_ ?_ | refine Z5 ?_ ?_) <;> intro _) | (refine hq _ ?_ ?_) | (rintro h1 n1 f1) | assumption | exact trivial | (show _ < _; omega) | (show _ ≤ _; omega) | (show ¬ (_ : Nat) = _; omega) | (show (_ : Nat) ≠ _; omega) | (show (_ : Nat) = _; omega) | (intro _; intros) | (refine ⟨_, by assumption, ?_⟩) | refine And.intro ?_ ?_))
  rw [if_pos u0] at hq
  have hRO : ∀ {h : H} {Q : D → H → Prop} {R : Y1}, hget h.mem pr = some (RC (Y7 ds de dt) inp p e0 n) → hget h.mem ps = some (Zfz pr env) → pr < h.next → ps < h.next → (∀ h', h.next ≤ h'.next → (∀ l, l < h.next → hget h'.mem l = hget h.mem l) → Q (.int .u64 (.ofNat u.1)) h') → VC E T 125 [.ptr ps 0, .int .i64 (.ofNat i)] h Q R := fun a1 a2 a3 a4 a6 => hRK a1 a2 a3 a4 (fun _ => a6) fun c => absurd u0 c
  clear hRK u9 u0
  have hTK : ∀ {h : H} {Q : D → H → Prop} {R : Y1}, hget h.mem pr = some (RC (Y7 ds de dt) inp p e0 n) → (e0 - p < u.1 → R (Zfv p 20) h) → (u.1 ≤ e0 - p → Q (.str (sub inp p u.1)) (YX h pr (RC (Y7 ds de dt) inp (p + u.1) e0 n))) → VC E T 172 [.ptr pr 0, .int .u64 (.ofNat u.1)] h Q R := fun a1 a2 a3 => Znz hT hp he hL a1 a2 a3
  clear at2
  unfold WY at hq
  by_cases hs1 : u.1 > e0 - p
  · rw [if_pos hs1, ZU] at hq
    clear hT hx hk hz hVI hVB
    refine Zp hKD ?_
    unfold Zs
    repeat' (with_reducible (first | refine Za ?_ | refine Zb ?_ | refine Zk ?_ | refine Zj ?_ | refine Zd ?_ | refine Z3 ?_ | refine Zc ?_ | refine Zl ?_ | refine Z9 ?_ | refine Z4 ?_ | refine Ze ?_ | refine hRO ?_ ?_ ?_ ?_ ?_ | refine hTK ?_ ?_ ?_ | simp (maxSteps := 2000000) (disch := first | assumption | omega | (simp only [Z1, Z0, List.length_cons, List.length_nil, List.length_append, List.length_take, List.length_drop]; omega) | fail) only [go_sem, -Int.reduceOfNat, *, hk0, hi] | ((first | refine Zn ?_ ?_ | refine Zh ?_ ?_ | refine Zm ?_ ?_ | refine Zf ?_ ?_ | refine Zg ?_ ?_ | refine Z5 ?_ ?_) <;> intro _) | (refine hq _ ?_ ?_) | (exfalso; omega) | (rintro h1 n1 f1) | (intro hle) | assumption | exact trivial | (show _ < _; omega) | (show _ ≤ _; omega) | (show ¬ (_ : Nat) = _; omega) | (show (_ : Nat) ≠ _; omega) | (show (_ : Nat) = _; omega) | (intro _; intros) | (refine ⟨_, by assumption, ?_⟩) | refine And.intro ?_ ?_))
  rw [if_neg hs1] at hq
  by_cases hn1 : n ≥ 1048576
  · rw [if_pos hn1, ZU] at hq
    have hO : Zgq E T ds de dt inp pr e0 n := Ze9 hT (show n = 1048576 by omega)
    clear hT hx hk hz hVI hVB
    refine Zp hKD ?_
    unfold Zs
    repeat' (with_reducible (first | refine Za ?_ | refine Zb ?_ | refine Zk ?_ | refine Zj ?_ | refine Zd ?_ | refine Z3 ?_ | refine Zc ?_ | refine Zl ?_ | refine Z9 ?_ | refine Z4 ?_ | refine Ze ?_ | refine hRO ?_ ?_ ?_ ?_ ?_ | refine hTK ?_ ?_ ?_ | refine hO (p := p + u.1) ?_ ?_ | simp (maxSteps := 2000000) (disch := first | assumption | omega | (simp only [Z1, Z0, List.length_cons, List.length_nil, List.length_append, List.length_take, List.length_drop]; omega) | fail) only [go_sem, -Int.reduceOfNat, *, hk0, hi] | ((first | refine Zn ?_ ?_ | refine Zh ?_ ?_ | refine Zm ?_ ?_ | refine Zf ?_ ?_ | refine Zg ?_ ?_ | refine Z5 ?_ ?_) <;> intro _) | (refine hq _ ?_ ?_) | (exfalso; omega) | (rintro h1 n1 f1) | (intro hle) | assumption | exact trivial | (show _ < _; omega) | (show _ ≤ _; omega) | (show ¬ (_ : Nat) = _; omega) | (show (_ : Nat) ≠ _; omega) | (show (_ : Nat) = _; omega) | (intro _; intros) | (refine ⟨_, by assumption, ?_⟩) | refine And.intro ?_ ?_))
  · rw [if_neg hn1, Yx] at hq
    have hO : Zkr E T ds de dt inp pr e0 n := Zhq hT (show n < 1048576 by omega)
    clear hT hx hk hz hVI
    refine Zp hKD ?_
    unfold Zs
    repeat' (with_reducible (first | refine Za ?_ | refine Zb ?_ | refine Zk ?_ | refine Zj ?_ | refine Zd ?_ | refine Z3 ?_ | refine Zc ?_ | refine Zl ?_ | refine Z9 ?_ | refine Z4 ?_ | refine Ze ?_ | refine hRO ?_ ?_ ?_ ?_ ?_ | refine hTK ?_ ?_ ?_ | refine hO (p := p + u.1) ?_ ?_ | refine Z15 hVB ?_ | simp (maxSteps := 2000000) (disch := first | assumption | omega | (simp only [Z1, Z0, List.length_cons, List.length_nil, List.length_append, List.length_take, List.length_drop]; omega) | fail) only [go_sem, -Int.reduceOfNat, *, hk0, hi] | ((first | refine Zn ?_ ?_ | refine Zh ?_ ?_ | refine Zm ?_ ?_ | refine Zf ?_ ?_ | refine Zg ?_ ?_ | refine Z5 ?_ ?_) <;> intro _) | (show Q _ _; refine hq _ _ _ _ _ Zf3 ?_ ?_ ?_) | (exfalso; omega) | (rintro h1 n1 f1) | (intro hle) | assumption | exact trivial | (show _ < _; omega) | (show _ ≤ _; omega) | (show ¬ (_ : Nat) = _; omega) | (show (_ : Nat) ≠ _; omega) | (show (_ : Nat) = _; omega) | (intro _; intros) | (refine ⟨_, by assumption, ?_⟩) | refine And.intro ?_ ?_))
end
end
section
variable {h : H} {Q : D → H → Prop} {R : Y1}
section
variable {F : XF} {crc : Zkz} {ds de dt : D} {inp : List Nat} {pr ps p e0 n : Nat} {env : Ev} {fp : D} {kind : Nat → Ev → Nat → Nat → Nat → RO V}
def Zzu (kind : Nat → Ev → Nat → Nat → Nat → RO V) (k : Nat) (cs : List XC) (inn : Int) (env : Ev) (p e n : Nat) : RO V :=
  match Zkn k cs with
  | some c => kind c env p e n
  | none => match inn with
    | .ofNat i => kind i env p e n
    | _ => .err p 24
abbrev ICh (h : H) (ps u1 : Nat) (dk : D) (tc : List D) (cs : List XC) (m : Nat) (t1 : Tr D) (h1 : H) : Prop :=
  h.next + 2 ≤ h1.next ∧ (∀ x, x < h.next → hget h1.mem x = hget h.mem x) ∧ hget h1.mem h.next = some (.cells 109 tc) ∧ hget h1.mem (h.next + 1) = some (.cells 39 [.int .i64 (.ofNat 0), .int .u64 (.ofNat 0), .str [], .v (.slice none 0 0)]) ∧ Gt 0 t1 = .ptr ps 0 ∧ Gt 3 t1 = .ptr h.next 0 ∧ Gt 4 t1 = .ptr (h.next + 1) 0 ∧ Gt 5 t1 = .int .u64 (.ofNat u1) ∧ Gt 13 t1 = dk ∧ Gt 14 t1 = .int .i64 (.ofNat cs.length) ∧ ∃ j, Gt 15 t1 = .int .i64 (.ofNat j) ∧ j + m = cs.length ∧ Zkn u1 (cs.drop j) = Zkn u1 cs
theorem Zfc {j : Nat} : iLt (.negSucc j) (.ofNat 0) = true := by
  have : (Int.negSucc j) < Int.ofNat 0 := Int.negSucc_lt_zero j
  simp only [iLt]
  exact decide_eq_true this
theorem vc178 (hT : RT E T F ds de dt) (ih : VK E T inp ds de dt kind) {size i : Nat} {lit : Bool} {nm : List Nat} {inn : Int} {cs : List XC} {dk : D} (hk : UC Zuz 2 dk cs) (hcl : cs.length ≤ 1000000) (at_ : At_ inp pr ps p e0 n env (Y7 ds de dt) h) {u : Nat × Nat} (hu : Zi7 F env (.ofNat i) = u) (hq : KQ (if u.2 = 0 then Zzu kind u.1 cs inn env p e0 n else if u.2 = 99 then .oof else .err p u.2) (Y7 ds de dt) inp pr e0 h Q R) : VC E T 178 [.ptr ps 0, .agg [.int .i64 (.ofNat 9), .int .i64 (.ofNat size), .v (.bool lit), .str nm, .v (.slice none 0 0), .int .i64 (.ofNat i), .int .i64 inn, dk]] h Q R := by
  have hCH := hT.h178
  have hdc := Zy hk
  have hdo := ZP hk
  have hln := hk.len
  have hFL : ∀ {h : H} {Q : D → H → Prop} {R : Y1}, hget h.mem pr = some (RC (Y7 ds de dt) inp p e0 n) → R (Zfv p 24) h → VC E T 57 [.ptr pr 0, .int .i64 (.ofNat 24)] h Q R := fun a1 a2 => Zpb hT.h57 a1 a2
  obtain ⟨hr, hs, np, ns, ne, hp, he, hn, hl⟩ := at_
  by_cases u9 : u.2 = 99
  · rw [if_neg (by omega), if_pos u9] at hq; exact hq.elim
  have hRK : ∀ {h : H} {Q : D → H → Prop} {R : Y1}, hget h.mem pr = some (RC (Y7 ds de dt) inp p e0 n) → hget h.mem ps = some (Zfz pr env) → pr < h.next → ps < h.next → (u.2 = 0 → ∀ h', h.next ≤ h'.next → (∀ l, l < h.next → hget h'.mem l = hget h.mem l) → Q (.int .u64 (.ofNat u.1)) h') → (u.2 ≠ 0 → ∀ h', h.next ≤ h'.next → (∀ l, l < h.next → hget h'.mem l = hget h.mem l) → R (Zfv p u.2) h') → VC E T 125 [.ptr ps 0, .int .i64 (.ofNat i)] h Q R := fun a1 a2 a3 a4 a5 a6 => Zan hT hu u9 hl a1 a2 a3 a4 a5 a6
  clear hu
  by_cases u0 : u.2 = 0
  case neg =>
    rw [if_neg u0, if_neg u9, ZU] at hq
    have hRE : ∀ {h : H} {Q : D → H → Prop} {R : Y1}, hget h.mem pr = some (RC (Y7 ds de dt) inp p e0 n) → hget h.mem ps = some (Zfz pr env) → pr < h.next → ps < h.next → (∀ h', h.next ≤ h'.next → (∀ l, l < h.next → hget h'.mem l = hget h.mem l) → R (Zfv p u.2) h') → VC E T 125 [.ptr ps 0, .int .i64 (.ofNat i)] h Q R := fun a1 a2 a3 a4 a6 => hRK a1 a2 a3 a4 (fun c => absurd c u0) fun _ => a6
    clear hRK
    clear hT hk hFL
    refine Zp hCH ?_
    unfold Zs
    repeat' (with_reducible (first | refine Za ?_ | refine Zb ?_ | refine Zk ?_ | refine Zj ?_ | refine Zd ?_ | refine Z3 ?_ | refine Zc ?_ | refine Zl ?_ | refine Z9 ?_ | refine Z4 ?_ | refine Ze ?_ | refine hRE ?_ ?_ ?_ ?_ ?_ | simp (maxSteps := 2000000) (disch := first | assumption | omega | (simp only [Z1, Z0, List.length_cons, List.length_nil, List.length_append, List.length_take, List.length_drop]; omega) | fail) only [go_sem, -Int.reduceOfNat, *] | ((first | refine Zn ?_ ?_ | refine Zh ?_ ?_ | refine Zm ?_ ?_ | refine Zf ?_ ?_ | refine Zg ?_ ?_ | refine Z5 ?_ ?_) <;> intro _) | (refine hq _ ?_ ?_) | (rintro h1 n1 f1) | assumption | exact trivial | (show _ < _; omega) | (show _ ≤ _; omega) | (show ¬ (_ : Nat) = _; omega) | (show (_ : Nat) ≠ _; omega) | (show (_ : Nat) = _; omega) | (intro _; intros) | (refine ⟨_, by assumption, ?_⟩) | refine And.intro ?_ ?_))
  rw [if_pos u0] at hq
  have hRO : ∀ {h : H} {Q : D → H → Prop} {R : Y1}, hget h.mem pr = some (RC (Y7 ds de dt) inp p e0 n) → hget h.mem ps = some (Zfz pr env) → pr < h.next → ps < h.next → (∀ h', h.next ≤ h'.next → (∀ l, l < h.next → hget h'.mem l = hget h.mem l) → Q (.int .u64 (.ofNat u.1)) h') → VC E T 125 [.ptr ps 0, .int .i64 (.ofNat i)] h Q R := fun a1 a2 a3 a4 a6 => hRK a1 a2 a3 a4 (fun _ => a6) fun c => absurd u0 c
  clear hRK u9 u0
  have hKD : ∀ {c : Nat} {h : H} {Q : D → H → Prop} {R : Y1}, hget h.mem pr = some (RC (Y7 ds de dt) inp p e0 n) → hget h.mem ps = some (Zfz pr env) → pr < h.next → ps < h.next → KQ (kind c env p e0 n) (Y7 ds de dt) inp pr e0 h Q R → VC E T 123 [.ptr ps 0, .int .i64 (.ofNat c)] h Q R := fun a1 a2 a3 a4 a5 => ih ⟨a1, a2, a3, a4, ne, hp, he, hn, hl⟩ a5
  have hel := fun j x hx => Zbj (i := j) (x := x) hk (by decide) hx
  clear hT ih hk
  generalize hX : Zzu kind u.1 cs inn env p e0 n = X at hq
  unfold Zzu at hX
  generalize u.1 = u1 at *
  refine Zp hCH ?_
  unfold Zs
  repeat' (with_reducible (first | refine Za ?_ | refine Zb ?_ | refine Zk ?_ | refine Zj ?_ | refine Zd ?_ | refine Z3 ?_ | refine Zc ?_ | refine Zl ?_ | refine Z9 ?_ | refine Z4 ?_ | refine Ze ?_ | refine hRO ?_ ?_ ?_ ?_ ?_ | simp (maxSteps := 2000000) (disch := first | assumption | omega | (simp only [Z1, Z0, List.length_cons, List.length_nil, List.length_append, List.length_take, List.length_drop]; omega) | fail) only [go_sem, -Int.reduceOfNat, *, List.drop_zero] | ((first | refine Zn ?_ ?_ | refine Zh ?_ ?_ | refine Zm ?_ ?_ | refine Zf ?_ ?_ | refine Zg ?_ ?_ | refine Z5 ?_ ?_) <;> intro _) | (refine WW (ICh h ps u1 dk [.int .i64 (.ofNat 9), .int .i64 (.ofNat size), .v (.bool lit), .str nm, .v (.slice none 0 0), .int .i64 (.ofNat i), .int .i64 inn, dk] cs) (n := cs.length) ?_ ?_) | (rintro h1 n1 f1) | assumption | exact trivial | (show _ < _; omega) | (show _ ≤ _; omega) | (show ¬ (_ : Nat) = _; omega) | (show (_ : Nat) ≠ _; omega) | (show (_ : Nat) = _; omega) | (intro _; intros) | (refine ⟨_, by assumption, ?_⟩) | refine And.intro ?_ ?_))
  all_goals
    clear hRO
    rintro m t1 h1 ⟨gn, gf, m3, m4, g0, g3, g4, g5, g13, g14, j, g15, gj, gc⟩
    by_cases hlt : j < cs.length
    · obtain ⟨x, hx⟩ : ∃ x, cs[j]? = some x := ⟨_, List.getElem?_eq_getElem hlt⟩
      obtain ⟨c, r, hc, hz, hix⟩ := hel j x hx
      unfold Zuz at hc
      subst hc
      have hd : cs.drop j = x :: cs.drop (j + 1) := by rw [List.drop_eq_getElem_cons hlt]; rw [List.getElem?_eq_getElem hlt] at hx; rw [Option.some.inj hx]
      rw [hd, Zkn] at gc
      clear hel hz hx hd
      by_cases e : x.n = u1
      · rw [if_pos e] at gc
        rw [← gc] at hX
        simp only [] at hX
        subst hX
        clear gc hFL
        cases hXX : kind x.ty env p e0 n with
        | oof => rw [hXX] at hq; exact hq.elim
        | ok v p' n' =>
          rw [hXX, Yx] at hq
          repeat' (with_reducible (first | refine Za ?_ | refine Zb ?_ | refine Zk ?_ | refine Zj ?_ | refine Zd ?_ | refine Z3 ?_ | refine Zc ?_ | refine Zl ?_ | refine Z9 ?_ | refine Z4 ?_ | refine Ze ?_ | refine hKD ?_ ?_ ?_ ?_ ?_ | simp (maxSteps := 2000000) (disch := first | assumption | omega | (simp only [Z1, Z0, List.length_cons, List.length_nil, List.length_append, List.length_take, List.length_drop]; omega) | fail) only [go_sem, -Int.reduceOfNat, *, hXX, Yx] | ((first | refine Zn ?_ ?_ | refine Zh ?_ ?_ | refine Zm ?_ ?_ | refine Zf ?_ ?_ | refine Zg ?_ ?_ | refine Z5 ?_ ?_) <;> intro _) | (show Q _ _; refine hq _ _ _ _ _ hrep ?_ ?_ ?_) | (rintro h1 a b c d hrep n1 f1 m1; obtain ⟨oa, ob, oc, od⟩ := ZX hrep) | assumption | exact trivial | (show _ < _; omega) | (show _ ≤ _; omega) | (show ¬ (_ : Nat) = _; omega) | (show (_ : Nat) ≠ _; omega) | (show (_ : Nat) = _; omega) | (intro _; intros) | (refine ⟨_, by assumption, ?_⟩) | refine And.intro ?_ ?_))
        | err p' e' =>
          rw [hXX, ZU] at hq
          repeat' (with_reducible (first | refine Za ?_ | refine Zb ?_ | refine Zk ?_ | refine Zj ?_ | refine Zd ?_ | refine Z3 ?_ | refine Zc ?_ | refine Zl ?_ | refine Z9 ?_ | refine Z4 ?_ | refine Ze ?_ | refine hKD ?_ ?_ ?_ ?_ ?_ | simp (maxSteps := 2000000) (disch := first | assumption | omega | (simp only [Z1, Z0, List.length_cons, List.length_nil, List.length_append, List.length_take, List.length_drop]; omega) | fail) only [go_sem, -Int.reduceOfNat, *, hXX, ZU] | ((first | refine Zn ?_ ?_ | refine Zh ?_ ?_ | refine Zm ?_ ?_ | refine Zf ?_ ?_ | refine Zg ?_ ?_ | refine Z5 ?_ ?_) <;> intro _) | (refine hq _ ?_ ?_) | (rintro h1 n1 f1) | assumption | exact trivial | (show _ < _; omega) | (show _ ≤ _; omega) | (show ¬ (_ : Nat) = _; omega) | (show (_ : Nat) ≠ _; omega) | (show (_ : Nat) = _; omega) | (intro _; intros) | (refine ⟨_, by assumption, ?_⟩) | refine And.intro ?_ ?_))
      · rw [if_neg e] at gc
        clear hX hKD hFL hq
        repeat' (with_reducible (first | refine Za ?_ | refine Zb ?_ | refine Zk ?_ | refine Zj ?_ | refine Zd ?_ | refine Z3 ?_ | refine Zc ?_ | refine Zl ?_ | refine Z9 ?_ | refine Z4 ?_ | refine Ze ?_ | simp (maxSteps := 2000000) (disch := first | assumption | omega | (simp only [Z1, Z0, List.length_cons, List.length_nil, List.length_append, List.length_take, List.length_drop]; omega) | fail) only [go_sem, -Int.reduceOfNat, *] | ((first | refine Zn ?_ ?_ | refine Zh ?_ ?_ | refine Zm ?_ ?_ | refine Zf ?_ ?_ | refine Zg ?_ ?_ | refine Z5 ?_ ?_) <;> intro _) | (refine ⟨m - 1, by omega, ?_⟩) | assumption | exact trivial | (show _ < _; omega) | (show _ ≤ _; omega) | (show ¬ (_ : Nat) = _; omega) | (show (_ : Nat) ≠ _; omega) | (show (_ : Nat) = _; omega) | (intro _; intros) | (refine ⟨_, by assumption, ?_⟩) | refine And.intro ?_ ?_))
    · obtain rfl : j = cs.length := by omega
      rw [List.drop_length, Zkn] at gc
      rw [← gc] at hX
      simp only [] at hX
      clear hel gc
      cases inn with
      | ofNat k =>
        simp only [] at hX
        subst hX
        clear hFL
        cases hXX : kind k env p e0 n with
        | oof => rw [hXX] at hq; exact hq.elim
        | ok v p' n' =>
          rw [hXX, Yx] at hq
          repeat' (with_reducible (first | refine Za ?_ | refine Zb ?_ | refine Zk ?_ | refine Zj ?_ | refine Zd ?_ | refine Z3 ?_ | refine Zc ?_ | refine Zl ?_ | refine Z9 ?_ | refine Z4 ?_ | refine Ze ?_ | refine hKD ?_ ?_ ?_ ?_ ?_ | simp (maxSteps := 2000000) (disch := first | assumption | omega | (simp only [Z1, Z0, List.length_cons, List.length_nil, List.length_append, List.length_take, List.length_drop]; omega) | fail) only [go_sem, -Int.reduceOfNat, *, hXX, Yx] | ((first | refine Zn ?_ ?_ | refine Zh ?_ ?_ | refine Zm ?_ ?_ | refine Zf ?_ ?_ | refine Zg ?_ ?_ | refine Z5 ?_ ?_) <;> intro _) | (show Q _ _; refine hq _ _ _ _ _ hrep ?_ ?_ ?_) | (rintro h1 a b c d hrep n1 f1 m1; obtain ⟨oa, ob, oc, od⟩ := ZX hrep) | assumption | exact trivial | (show _ < _; omega) | (show _ ≤ _; omega) | (show ¬ (_ : Nat) = _; omega) | (show (_ : Nat) ≠ _; omega) | (show (_ : Nat) = _; omega) | (intro _; intros) | (refine ⟨_, by assumption, ?_⟩) | refine And.intro ?_ ?_))
        | err p' e' =>
          rw [hXX, ZU] at hq
          repeat' (with_reducible (first | refine Za ?_ | refine Zb ?_ | refine Zk ?_ | refine Zj ?_ | refine Zd ?_ | refine Z3 ?_ | refine Zc ?_ | refine Zl ?_ | refine Z9 ?_ | refine Z4 ?_ | refine Ze ?_ | refine hKD ?_ ?_ ?_ ?_ ?_ | simp (maxSteps := 2000000) (disch := first | assumption | omega | (simp only [Z1, Z0, List.length_cons, List.length_nil, List.length_append, List.length_take, List.length_drop]; omega) | fail) only [go_sem, -Int.reduceOfNat, *, hXX, ZU] | ((first | refine Zn ?_ ?_ | refine Zh ?_ ?_ | refine Zm ?_ ?_ | refine Zf ?_ ?_ | refine Zg ?_ ?_ | refine Z5 ?_ ?_) <;> intro _) | (refine hq _ ?_ ?_) | (rintro h1 n1 f1) | assumption | exact trivial | (show _ < _; omega) | (show _ ≤ _; omega) | (show ¬ (_ : Nat) = _; omega) | (show (_ : Nat) ≠ _; omega) | (show (_ : Nat) = _; omega) | (intro _; intros) | (refine ⟨_, by assumption, ?_⟩) | refine And.intro ?_ ?_))
      | negSucc k =>
        simp only [] at hX
        rw [← hX, ZU] at hq
        clear hKD hX
        repeat' (with_reducible (first | refine Za ?_ | refine Zb ?_ | refine Zk ?_ | refine Zj ?_ | refine Zd ?_ | refine Z3 ?_ | refine Zc ?_ | refine Zl ?_ | refine Z9 ?_ | refine Z4 ?_ | refine Ze ?_ | refine hFL ?_ ?_ | simp (maxSteps := 2000000) (disch := first | assumption | omega | (simp only [Z1, Z0, List.length_cons, List.length_nil, List.length_append, List.length_take, List.length_drop]; omega) | fail) only [go_sem, -Int.reduceOfNat, *, Zfc] | ((first | refine Zn ?_ ?_ | refine Zh ?_ ?_ | refine Zm ?_ ?_ | refine Zf ?_ ?_ | refine Zg ?_ ?_ | refine Z5 ?_ ?_) <;> intro _) | (refine hq _ ?_ ?_) | assumption | exact trivial | (show _ < _; omega) | (show _ ≤ _; omega) | (show ¬ (_ : Nat) = _; omega) | (show (_ : Nat) ≠ _; omega) | (show (_ : Nat) = _; omega) | (intro _; intros) | (refine ⟨_, by assumption, ?_⟩) | refine And.intro ?_ ?_))
end
end
section
variable {h : H} {Q : D → H → Prop} {R : Y1}
section
variable {a : FC} {t : Tr D} {h : H} {Q : UD} {R : Y1}
theorem Zll {i j k id : Nat} {ty : TypeId} {ox oy : Operand} (h1 : Gt i t = .int .i64 (.ofNat 0)) (h2 : Gt j t = .int .i64 (.ofNat 0)) (hq : Q (.exit id) (St k (.v (.bool false)) t) h) : VP E T (Xi (Z2 (Z7 (fo (Zq WH .lss ty ox oy (Gt i) (Gt j)) (St k) Z8)) (Z2 (Zt (Gt k) ZJ (WS id)) a))) t h Q R := by
  refine WV ?_
  repeat' (with_reducible (first | refine Za ?_ | refine Zb ?_ | refine Zk ?_ | refine Zj ?_ | refine Zd ?_ | refine Z3 ?_ | refine Zc ?_ | refine Zl ?_ | refine Z9 ?_ | refine Z4 ?_ | refine Ze ?_ | simp (maxSteps := 2000000) (disch := first | assumption | omega | (simp only [Z1, Z0, List.length_cons, List.length_nil, List.length_append, List.length_take, List.length_drop]; omega) | fail) only [go_sem, -Int.reduceOfNat, *] | ((first | refine Zn ?_ ?_ | refine Zh ?_ ?_ | refine Zm ?_ ?_ | refine Zf ?_ ?_ | refine Zg ?_ ?_ | refine Z5 ?_ ?_) <;> intro _) | (show Q _ _; exact hq) | assumption | exact trivial | (show _ < _; omega) | (show _ ≤ _; omega) | (show ¬ (_ : Nat) = _; omega) | (show (_ : Nat) ≠ _; omega) | (show (_ : Nat) = _; omega) | (intro _; intros) | (refine ⟨_, by assumption, ?_⟩) | refine And.intro ?_ ?_))
end
end
section
variable {h : H} {Q : D → H → Prop} {R : Y1}
section
variable {F : XF} {crc : Zkz} {ds de dt : D} {inp : List Nat} {pr ps p e0 n : Nat} {env : Ev} {fp : D} {kind : Nat → Ev → Nat → Nat → Nat → RO V}
def q177 : Yd := Uz Zs (fun t h => VU ⟨[.cN 4 4], .skip⟩ (act t) h)
 (Z2 (Z7<|fo (UA 109 (Gt 1)) (St 3)<|fo (ZN 39 [(.int .i64 (.ofNat 0)),(.int .u64 (.ofNat 0)),(.str []),(.v (.slice none 0 0))]) (St 4)<|Z8)
 (Z2 (Z7<|mM 0 9<|mF 5 3 10<|mL 10 11<|mK 125 [(Gt 9),(Gt 11)] 12<|mM 12 5<|Z8)
 (Z2 (Z2 (Z7<|mM 5 13<|mM 0 14<|mN 14 15<|mF 0 15 16<|mL 16 17<|mN 17 18<|mF 1 18 19<|mL 19 20<|fo (u1 WD (Gt 20)) (St 21)<|fo (WT .u64 (Gt 21)) (St 22)<|fo (Zq Zcy .gtr 36 (.tmp 13) (.tmp 22) (Gt 13) (Gt 22)) (St 23)<|Z8)
 (Zt (Gt 23) (Z7<|mM 0 24<|mN 24 25<|mF 0 25 26<|mL 26 27<|mK 57 [(Gt 27),(kI 20)] 28<|Z8) ZJ))
 (Z2 (YY<|Zu (ZC (Gt 0)) (St 29)<|Zu (u1 Zo (Gt 29)) (St 30)<|Zu (u1 (ZL 0) (Gt 30)) (St 31)<|Xj 3 [] 1 (Gt 31) (ZO (Gt 31)) (St 32)<|Zu (u1 Zo (Gt 32)) (St 33)<|Zu (u1 (ZL 2) (Gt 33)) (St 34)<|Xj 6 [] 1 (Gt 34) (ZO (Gt 34)) (St 35)<|Zu (ZC (Gt 0)) (St 36)<|Zu (u1 Zo (Gt 36)) (St 37)<|Zu (u1 (ZL 0) (Gt 37)) (St 38)<|Xj 10 [0,1,2,3,4,5,6] 1 (Gt 38) (ZO (Gt 38)) (St 39)<|Zu (u1 Zo (Gt 39)) (St 40)<|Zu (u1 (ZL 3) (Gt 40)) (St 41)<|Xj 13 [0,1,2,3,4,5,6] 1 (Gt 41) (ZO (Gt 41)) (St 42)<|Zu (ZC (Gt 35)) (St 6)<|Zu (ZC (Gt 42)) (St 7)<|YZ)
 (Z2 (YY<|Zu (ZC (Gt 0)) (St 43)<|Zu (u1 Zo (Gt 43)) (St 44)<|Zu (u1 (ZL 0) (Gt 44)) (St 45)<|Xj 3 [] 1 (Gt 45) (ZO (Gt 45)) (St 46)<|Zu (ZC (Gt 0)) (St 47)<|Zu (u1 Zo (Gt 47)) (St 48)<|Zu (u1 (ZL 0) (Gt 48)) (St 49)<|Xj 7 [0,1,2,3] 1 (Gt 49) (ZO (Gt 49)) (St 50)<|Zu (ZC (Gt 5)) (St 51)<|Zu (WT .i64 (Gt 51)) (St 52)<|Zu (ZC (Gt 0)) (St 53)<|Zu (u1 Zo (Gt 53)) (St 54)<|Zu (u1 (ZL 0) (Gt 54)) (St 55)<|Xj 13 [0,1,2,3,4,5,6,7,8,9] 1 (Gt 55) (ZO (Gt 55)) (St 56)<|Zu (u1 Zo (Gt 56)) (St 57)<|Zu (u1 (ZL 1) (Gt 57)) (St 58)<|Xj 16 [0,1,2,3,4,5,6,7,8,9] 1 (Gt 58) (ZO (Gt 58)) (St 59)<|Zu (u1 WD (Gt 59)) (St 60)<|Zu (u1 Zo (Gt 46)) (St 61)<|Zu (u1 (ZL 2) (Gt 61)) (St 62)<|Zfw 20 [17] (ZV 1 (Gt 62) (Gt 52)) p0<|Zu (u1 Zo (Gt 50)) (St 63)<|Zu (u1 (ZL 3) (Gt 63)) (St 64)<|Zfw 23 [] (ZV 1 (Gt 64) (Gt 60)) p0<|YZ)
 (Z2 (Z7<|mM 0 65<|mF 6 3 66<|mL 66 67<|mK 123 [(Gt 65),(Gt 67)] 68<|fo (ZN 39 [(.int .i64 (.ofNat 0)),(.int .u64 (.ofNat 0)),(.str []),(.v (.slice none 0 0))]) (St 8)<|fo (ZV 4 (Gt 8) (Gt 68)) p0<|Z8)
 (Z2 (YY<|Zu (ZC (Gt 0)) (St 69)<|Zu (u1 Zo (Gt 69)) (St 70)<|Zu (u1 (ZL 0) (Gt 70)) (St 71)<|Xj 3 [] 1 (Gt 71) (ZO (Gt 71)) (St 72)<|Zu (ZC (Gt 0)) (St 73)<|Zu (u1 Zo (Gt 73)) (St 74)<|Zu (u1 (ZL 0) (Gt 74)) (St 75)<|Xj 7 [0,1,2,3] 1 (Gt 75) (ZO (Gt 75)) (St 76)<|Zu (ZC (Gt 6)) (St 77)<|Zu (ZC (Gt 7)) (St 78)<|Zu (u1 Zo (Gt 72)) (St 79)<|Zu (u1 (ZL 2) (Gt 79)) (St 80)<|Zfw 12 [9] (ZV 1 (Gt 80) (Gt 77)) p0<|Zu (u1 Zo (Gt 76)) (St 81)<|Zu (u1 (ZL 3) (Gt 81)) (St 82)<|Zfw 15 [] (ZV 1 (Gt 82) (Gt 78)) p0<|YZ)
 (Z2 (Z7<|fo (Yy 4 (Gt 8)) (St 83)<|fo (ZV 4 (Gt 4) (Gt 83)) p0<|Z8)
 ZF))))))))
theorem vc177 (hT : RT E T F ds de dt) (h177 : T 177 = q177) (ih : VK E T inp ds de dt kind) (hL : inp.length ≤ 1048576) {size i w : Nat} {lit : Bool} {nm : List Nat} {cs : List XC} {dk : D} (hk : UC Zuz 2 dk cs) (at_ : At_ inp pr ps p e0 n env (Y7 ds de dt) h) {u : Nat × Nat} (hu : Zi7 F env (.ofNat i) = u) (hq : KQ (if u.2 = 0 then (if u.1 > inp.length then .err p 20 else (kind w env u.1 inp.length n).bind fun v _ n => .ok v p n) else if u.2 = 99 then .oof else .err p u.2) (Y7 ds de dt) inp pr e0 h Q R) : VC E T 177 [.ptr ps 0, .agg [.int .i64 (.ofNat 8), .int .i64 (.ofNat size), .v (.bool lit), .str nm, .v (.slice none 0 0), .int .i64 (.ofNat i), .int .i64 (.ofNat w), dk]] h Q R := by
  have hdc := Zy hk
  have hdo := ZP hk
  have hFL : ∀ {h : H} {Q : D → H → Prop} {R : Y1}, hget h.mem pr = some (RC (Y7 ds de dt) inp p e0 n) → R (Zfv p 20) h → VC E T 57 [.ptr pr 0, .int .i64 (.ofNat 20)] h Q R := fun a1 a2 => Zpb hT.h57 a1 a2
  obtain ⟨hr, hs, np, ns, ne, hp, he, hn, hl⟩ := at_
  by_cases u9 : u.2 = 99
  · rw [if_neg (by omega), if_pos u9] at hq; exact hq.elim
  have hRK : ∀ {h : H} {Q : D → H → Prop} {R : Y1}, hget h.mem pr = some (RC (Y7 ds de dt) inp p e0 n) → hget h.mem ps = some (Zfz pr env) → pr < h.next → ps < h.next → (u.2 = 0 → ∀ h', h.next ≤ h'.next → (∀ l, l < h.next → hget h'.mem l = hget h.mem l) → Q (.int .u64 (.ofNat u.1)) h') → (u.2 ≠ 0 → ∀ h', h.next ≤ h'.next → (∀ l, l < h.next → hget h'.mem l = hget h.mem l) → R (Zfv p u.2) h') → VC E T 125 [.ptr ps 0, .int .i64 (.ofNat i)] h Q R := fun a1 a2 a3 a4 a5 a6 => Zan hT hu u9 hl a1 a2 a3 a4 a5 a6
  clear hu
  by_cases u0 : u.2 = 0
  case neg =>
    rw [if_neg u0, if_neg u9, ZU] at hq
    have hRE : ∀ {h : H} {Q : D → H → Prop} {R : Y1}, hget h.mem pr = some (RC (Y7 ds de dt) inp p e0 n) → hget h.mem ps = some (Zfz pr env) → pr < h.next → ps < h.next → (∀ h', h.next ≤ h'.next → (∀ l, l < h.next → hget h'.mem l = hget h.mem l) → R (Zfv p u.2) h') → VC E T 125 [.ptr ps 0, .int .i64 (.ofNat i)] h Q R := fun a1 a2 a3 a4 a6 => hRK a1 a2 a3 a4 (fun c => absurd c u0) fun _ => a6
    clear hRK
    clear hT hk hFL
    refine Zp h177 ?_
    unfold Zs
    repeat' (with_reducible (first | refine Za ?_ | refine Zb ?_ | refine Zk ?_ | refine Zj ?_ | refine Zd ?_ | refine Z3 ?_ | refine Zc ?_ | refine Zl ?_ | refine Z9 ?_ | refine Z4 ?_ | refine Ze ?_ | refine hRE ?_ ?_ ?_ ?_ ?_ | simp (maxSteps := 2000000) (disch := first | assumption | omega | (simp only [Z1, Z0, List.length_cons, List.length_nil, List.length_append, List.length_take, List.length_drop]; omega) | fail) only [go_sem, -Int.reduceOfNat, *] | ((first | refine Zn ?_ ?_ | refine Zh ?_ ?_ | refine Zm ?_ ?_ | refine Zf ?_ ?_ | refine Zg ?_ ?_ | refine Z5 ?_ ?_) <;> intro _) | (refine hq _ ?_ ?_) | (rintro h1 n1 f1) | assumption | exact trivial | (show _ < _; omega) | (show _ ≤ _; omega) | (show ¬ (_ : Nat) = _; omega) | (show (_ : Nat) ≠ _; omega) | (show (_ : Nat) = _; omega) | (intro _; intros) | (refine ⟨_, by assumption, ?_⟩) | refine And.intro ?_ ?_))
  rw [if_pos u0] at hq
  have hRO : ∀ {h : H} {Q : D → H → Prop} {R : Y1}, hget h.mem pr = some (RC (Y7 ds de dt) inp p e0 n) → hget h.mem ps = some (Zfz pr env) → pr < h.next → ps < h.next → (∀ h', h.next ≤ h'.next → (∀ l, l < h.next → hget h'.mem l = hget h.mem l) → Q (.int .u64 (.ofNat u.1)) h') → VC E T 125 [.ptr ps 0, .int .i64 (.ofNat i)] h Q R := fun a1 a2 a3 a4 a6 => hRK a1 a2 a3 a4 (fun _ => a6) fun c => absurd u0 c
  clear hRK u9 u0
  by_cases hs1 : u.1 > inp.length
  · rw [if_pos hs1, ZU] at hq
    clear hT hk
    refine Zp h177 ?_
    unfold Zs
    repeat' (with_reducible (first | refine Za ?_ | refine Zb ?_ | refine Zk ?_ | refine Zj ?_ | refine Zd ?_ | refine Z3 ?_ | refine Zc ?_ | refine Zl ?_ | refine Z9 ?_ | refine Z4 ?_ | refine Ze ?_ | refine hRO ?_ ?_ ?_ ?_ ?_ | refine hFL ?_ ?_ | simp (maxSteps := 2000000) (disch := first | assumption | omega | (simp only [Z1, Z0, List.length_cons, List.length_nil, List.length_append, List.length_take, List.length_drop]; omega) | fail) only [go_sem, -Int.reduceOfNat, *, XD] | ((first | refine Zn ?_ ?_ | refine Zh ?_ ?_ | refine Zm ?_ ?_ | refine Zf ?_ ?_ | refine Zg ?_ ?_ | refine Z5 ?_ ?_) <;> intro _) | (refine hq _ ?_ ?_) | (rintro h1 n1 f1) | assumption | exact trivial | (show _ < _; omega) | (show _ ≤ _; omega) | (show ¬ (_ : Nat) = _; omega) | (show (_ : Nat) ≠ _; omega) | (show (_ : Nat) = _; omega) | (intro _; intros) | (refine ⟨_, by assumption, ?_⟩) | refine And.intro ?_ ?_))
  rw [if_neg hs1] at hq
  have hle : u.1 ≤ inp.length := by omega
  have hKD : ∀ {h : H} {Q : D → H → Prop} {R : Y1}, hget h.mem pr = some (RC (Y7 ds de dt) inp u.1 inp.length n) → hget h.mem ps = some (Zfz pr env) → pr < h.next → ps < h.next → KQ (kind w env u.1 inp.length n) (Y7 ds de dt) inp pr inp.length h Q R → VC E T 123 [.ptr ps 0, .int .i64 (.ofNat w)] h Q R := fun a1 a2 a3 a4 a5 => ih ⟨a1, a2, a3, a4, ne, hle, Nat.le_refl _, hn, hl⟩ a5
  clear hT ih hk hFL hs1
  cases hXX : kind w env u.1 inp.length n with
  | oof => rw [hXX] at hq; exact hq.elim
  | ok v p' n' =>
    rw [hXX] at hq
    simp only [RO.bind, Yx] at hq
    refine Zp h177 ?_
    unfold Zs
    repeat' (with_reducible (first | refine Za ?_ | refine Zb ?_ | refine Zk ?_ | refine Zj ?_ | refine Zd ?_ | refine Z3 ?_ | refine Zc ?_ | refine Zl ?_ | refine Z9 ?_ | refine Z4 ?_ | refine Ze ?_ | refine hRO ?_ ?_ ?_ ?_ ?_ | refine hKD ?_ ?_ ?_ ?_ ?_ | simp (maxSteps := 2000000) (disch := first | assumption | omega | (simp only [Z1, Z0, List.length_cons, List.length_nil, List.length_append, List.length_take, List.length_drop]; omega) | fail) only [go_sem, -Int.reduceOfNat, *, hXX, Yx, XD, Zgr] | ((first | refine Zn ?_ ?_ | refine Zh ?_ ?_ | refine Zm ?_ ?_ | refine Zf ?_ ?_ | refine Zg ?_ ?_ | refine Z5 ?_ ?_) <;> intro _ <;> (try (exfalso; omega))) | (show Q _ _; refine hq _ _ _ _ _ hrep ?_ ?_ ?_) | (rintro h1 a b c d hrep n1 f1 m1; obtain ⟨oa, ob, oc, od⟩ := ZX hrep) | (rintro h1 n1 f1) | assumption | exact trivial | (show _ < _; omega) | (show _ ≤ _; omega) | (show ¬ (_ : Nat) = _; omega) | (show (_ : Nat) ≠ _; omega) | (show (_ : Nat) = _; omega) | (intro _; intros) | (refine ⟨_, by assumption, ?_⟩) | refine And.intro ?_ ?_))
  | err p' e' =>
    rw [hXX] at hq
    simp only [RO.bind, ZU] at hq
    refine Zp h177 ?_
    unfold Zs
    repeat' (with_reducible (first | refine Za ?_ | refine Zb ?_ | refine Zk ?_ | refine Zj ?_ | refine Zd ?_ | refine Z3 ?_ | refine Zc ?_ | refine Zl ?_ | refine Z9 ?_ | refine Z4 ?_ | refine Ze ?_ | refine hRO ?_ ?_ ?_ ?_ ?_ | refine hKD ?_ ?_ ?_ ?_ ?_ | simp (maxSteps := 2000000) (disch := first | assumption | omega | (simp only [Z1, Z0, List.length_cons, List.length_nil, List.length_append, List.length_take, List.length_drop]; omega) | fail) only [go_sem, -Int.reduceOfNat, *, hXX, ZU, XD, Zgr] | ((first | refine Zn ?_ ?_ | refine Zh ?_ ?_ | refine Zm ?_ ?_ | refine Zf ?_ ?_ | refine Zg ?_ ?_ | refine Z5 ?_ ?_) <;> intro _ <;> (try (exfalso; omega))) | (refine hq _ ?_ ?_) | (rintro h1 n1 f1) | assumption | exact trivial | (show _ < _; omega) | (show _ ≤ _; omega) | (show ¬ (_ : Nat) = _; omega) | (show (_ : Nat) ≠ _; omega) | (show (_ : Nat) = _; omega) | (intro _; intros) | (refine ⟨_, by assumption, ?_⟩) | refine And.intro ?_ ?_))
end
end
section
variable {h : H} {Q : D → H → Prop} {R : Y1}
section
variable {F : XF} {crc : Zkz} {ds de dt : D} {inp : List Nat} {pr ps p e0 n : Nat} {env : Ev} {fp : D} {kind : Nat → Ev → Nat → Nat → Nat → RO V}
def q173 : Yd := Uz Zs (fun t h => VU ⟨[.cN 4 4], .skip⟩ (act t) h)
 (Z2 (Z7<|fo (UA 109 (Gt 1)) (St 3)<|fo (ZN 39 [(.int .i64 (.ofNat 0)),(.int .u64 (.ofNat 0)),(.str []),(.v (.slice none 0 0))]) (St 4)<|Z8)
 (Z2 (Z7<|mM 0 7<|mN 7 8<|mF 0 8 9<|mL 9 10<|mN 10 11<|mF 2 11 12<|mL 12 13<|mM 13 5<|Z8)
 (Z2 (YY<|Zu (ZC (Gt 0)) (St 14)<|Zu (u1 Zo (Gt 14)) (St 15)<|Zu (u1 (ZL 0) (Gt 15)) (St 16)<|Xj 3 [] 1 (Gt 16) (ZO (Gt 16)) (St 17)<|Zu (ZC (Gt 0)) (St 18)<|Zu (u1 (ZL 5) (Gt 3)) (St 19)<|Xj 6 [0,1,2,3,4] 1 (Gt 19) (ZO (Gt 19)) (St 20)<|Zim 7 [0,1,2,3] (ZW 125 [(Gt 18),(Gt 20)]) (St 21)<|Zim 8 [] (ZW 172 [(Gt 17),(Gt 21)]) (St 22)<|Zu (ZC (Gt 22)) (St 6)<|YZ)
 (Z2 (Z2 (Z7<|mF 0 3 23<|mL 23 24<|fo (mQ 106 24 2) (St 25)<|mM 25 26<|YG (Gt 26) true (ZC (Gt 6)) (St 27)<|YG (Gt 26) true (ZW 228 [(Gt 27),(kS [0])]) (St 28)<|YG (Gt 26) true (Zq VT .neq 9 (.tmp 28) (.const (.string ⟨#[]⟩)) (Gt 28) (kS [])) (St 29)<|fo (Xa (Gt 26) (Gt 29) (kD (.v (.bool false)))) (St 30)<|Z8)
 (Zt (Gt 30) (Z2 (YY<|Zu (ZC (Gt 0)) (St 31)<|Zu (u1 Zo (Gt 31)) (St 32)<|Zu (u1 (ZL 0) (Gt 32)) (St 33)<|Xj 3 [] 1 (Gt 33) (ZO (Gt 33)) (St 34)<|Zu (ZC (Gt 5)) (St 35)<|Zu (ZC (Gt 6)) (St 36)<|Zu (u1 WD (Gt 36)) (St 37)<|Zu (Zq YJ .add 3 (.tmp 35) (.tmp 37) (Gt 35) (Gt 37)) (St 38)<|Zu (ZC (Gt 6)) (St 39)<|Zim 9 [0,1,2,3,4,5,6,7] (ZW 101 [(Gt 39),(kS [0])]) (St 40)<|Zu (u1 WD (Gt 40)) (St 41)<|Zu (Zq Zgh .sub 3 (.tmp 38) (.tmp 41) (Gt 38) (Gt 41)) (St 42)<|Zu (u1 Zo (Gt 34)) (St 43)<|Zu (u1 (ZL 2) (Gt 43)) (St 44)<|Zfw 14 [] (ZV 1 (Gt 44) (Gt 42)) p0<|YZ)
 (Z7<|mM 0 45<|mN 45 46<|mF 0 46 47<|mL 47 48<|mK 57 [(Gt 48),(kI 6)] 49<|Z8)) ZJ))
 (Z2 (Z7<|mM 0 50<|mN 50 51<|mF 0 51 52<|mL 52 53<|mK 85 [(Gt 53)] 54<|Z8)
 (Z2 (Z7<|fo (YA [(.int .i64 (.ofNat 0)),(.int .u64 (.ofNat 0)),(.str []),(.v (.slice none 0 0))] []) (St 55)<|fo (ZV 4 (Gt 4) (Gt 55)) p0<|Z8)
 ZF))))))
theorem offL_0 (l : List Nat) (h : l.all (· == 0) = true) : Zjp 0 l = [] := by
  induction l with
  | nil => rfl
  | cons b r ih =>
    simp only [List.all_cons, Bool.and_eq_true, beq_iff_eq] at h
    rw [h.1]
    exact ih h.2
theorem vc228 (h228 : T 228 = Xb Zbm) {s : List Nat} (hs : s.length ≤ 1048576) (h0 : s.all (· == 0) = true) (hq : Q (.str []) h) : VC E T 228 [.str s, .str [0]] h Q R := Zcj h228 (by
  show VO Q R (bif Nat.ble s.length 9223372036854775807 && Nat.blt 0 128 then .ok (.str (Zjp 0 (Zjp 0 s.reverse).reverse)) h else .fail "trim")
  rw [Nat.ble_eq_true_of_le (by omega), offL_0 s.reverse (by rw [List.all_reverse]; exact h0)]
  exact hq)
theorem vc173 (hT : RT E T F ds de dt) (h173 : T 173 = q173) (h228 : T 228 = Xb Zbm) (hL : inp.length ≤ 1048576) {k size i : Nat} {lit : Bool} {nm : List Nat} {inn : Int} {cs : List XC} {dk : D} (hk23 : k = 2 ∨ k = 3) (hk : UC Zuz 2 dk cs) (at_ : At_ inp pr ps p e0 n env (Y7 ds de dt) h) {u : Nat × Nat} (hu : Zi7 F env (.ofNat i) = u) (hq : KQ (if u.2 = 0 then (if u.1 > e0 - p then .err p 20 else if k = 3 ∨ (sub inp p u.1).all (· == 0) = true then WY Zla (p + u.1) n else .oof) else if u.2 = 99 then .oof else .err p u.2) (Y7 ds de dt) inp pr e0 h Q R) : VC E T 173 [.ptr ps 0, .agg [.int .i64 (.ofNat k), .int .i64 (.ofNat size), .v (.bool lit), .str nm, .v (.slice none 0 0), .int .i64 (.ofNat i), .int .i64 inn, dk]] h Q R := by
  have hdc := Zy hk
  have hdo := ZP hk
  obtain ⟨hr, hs, np, ns, ne, hp, he, hn, hl⟩ := at_
  by_cases u9 : u.2 = 99
  · rw [if_neg (by omega), if_pos u9] at hq; exact hq.elim
  have hRK : ∀ {h : H} {Q : D → H → Prop} {R : Y1}, hget h.mem pr = some (RC (Y7 ds de dt) inp p e0 n) → hget h.mem ps = some (Zfz pr env) → pr < h.next → ps < h.next → (u.2 = 0 → ∀ h', h.next ≤ h'.next → (∀ l, l < h.next → hget h'.mem l = hget h.mem l) → Q (.int .u64 (.ofNat u.1)) h') → (u.2 ≠ 0 → ∀ h', h.next ≤ h'.next → (∀ l, l < h.next → hget h'.mem l = hget h.mem l) → R (Zfv p u.2) h') → VC E T 125 [.ptr ps 0, .int .i64 (.ofNat i)] h Q R := fun a1 a2 a3 a4 a5 a6 => Zan hT hu u9 hl a1 a2 a3 a4 a5 a6
  clear hu
  by_cases u0 : u.2 = 0
  case neg =>
    rw [if_neg u0, if_neg u9, ZU] at hq
    have hRE : ∀ {h : H} {Q : D → H → Prop} {R : Y1}, hget h.mem pr = some (RC (Y7 ds de dt) inp p e0 n) → hget h.mem ps = some (Zfz pr env) → pr < h.next → ps < h.next → (∀ h', h.next ≤ h'.next → (∀ l, l < h.next → hget h'.mem l = hget h.mem l) → R (Zfv p u.2) h') → VC E T 125 [.ptr ps 0, .int .i64 (.ofNat i)] h Q R := fun a1 a2 a3 a4 a6 => hRK a1 a2 a3 a4 (fun c => absurd c u0) fun _ => a6
    clear hRK
    clear hT hk
    refine Zp h173 ?_
    unfold Zs
    repeat' (with_reducible (first | refine Za ?_ | refine Zb ?_ | refine Zk ?_ | refine Zj ?_ | refine Zd ?_ | refine Z3 ?_ | refine Zc ?_ | refine Zl ?_ | refine Z9 ?_ | refine Z4 ?_ | refine Ze ?_ | refine hRE ?_ ?_ ?_ ?_ ?_ | simp (maxSteps := 2000000) (disch := first | assumption | omega | (simp only [Z1, Z0, List.length_cons, List.length_nil, List.length_append, List.length_take, List.length_drop]; omega) | fail) only [go_sem, -Int.reduceOfNat, *] | ((first | refine Zn ?_ ?_ | refine Zh ?_ ?_ | refine Zm ?_ ?_ | refine Zf ?_ ?_ | refine Zg ?_ ?_ | refine Z5 ?_ ?_) <;> intro _) | (refine hq _ ?_ ?_) | (rintro h1 n1 f1) | assumption | exact trivial | (show _ < _; omega) | (show _ ≤ _; omega) | (show ¬ (_ : Nat) = _; omega) | (show (_ : Nat) ≠ _; omega) | (show (_ : Nat) = _; omega) | (intro _; intros) | (refine ⟨_, by assumption, ?_⟩) | refine And.intro ?_ ?_))
  rw [if_pos u0] at hq
  have hRO : ∀ {h : H} {Q : D → H → Prop} {R : Y1}, hget h.mem pr = some (RC (Y7 ds de dt) inp p e0 n) → hget h.mem ps = some (Zfz pr env) → pr < h.next → ps < h.next → (∀ h', h.next ≤ h'.next → (∀ l, l < h.next → hget h'.mem l = hget h.mem l) → Q (.int .u64 (.ofNat u.1)) h') → VC E T 125 [.ptr ps 0, .int .i64 (.ofNat i)] h Q R := fun a1 a2 a3 a4 a6 => hRK a1 a2 a3 a4 (fun _ => a6) fun c => absurd u0 c
  clear hRK u9 u0
  have hTK : ∀ {h : H} {Q : D → H → Prop} {R : Y1}, hget h.mem pr = some (RC (Y7 ds de dt) inp p e0 n) → (e0 - p < u.1 → R (Zfv p 20) h) → (u.1 ≤ e0 - p → Q (.str (sub inp p u.1)) (YX h pr (RC (Y7 ds de dt) inp (p + u.1) e0 n))) → VC E T 172 [.ptr pr 0, .int .u64 (.ofNat u.1)] h Q R := fun a1 a2 a3 => Znz hT hp he hL a1 a2 a3
  have hsl : (sub inp p u.1).length ≤ 1048576 := by unfold sub; rw [List.length_take, List.length_drop]; omega
  unfold WY at hq
  by_cases hs1 : u.1 > e0 - p
  · rw [if_pos hs1, ZU] at hq
    clear hT hk hk23 hsl
    refine Zp h173 ?_
    unfold Zs
    repeat' (with_reducible (first | refine Za ?_ | refine Zb ?_ | refine Zk ?_ | refine Zj ?_ | refine Zd ?_ | refine Z3 ?_ | refine Zc ?_ | refine Zl ?_ | refine Z9 ?_ | refine Z4 ?_ | refine Ze ?_ | refine hRO ?_ ?_ ?_ ?_ ?_ | refine hTK ?_ ?_ ?_ | simp (maxSteps := 2000000) (disch := first | assumption | omega | (simp only [Z1, Z0, List.length_cons, List.length_nil, List.length_append, List.length_take, List.length_drop]; omega) | fail) only [go_sem, -Int.reduceOfNat, *] | ((first | refine Zn ?_ ?_ | refine Zh ?_ ?_ | refine Zm ?_ ?_ | refine Zf ?_ ?_ | refine Zg ?_ ?_ | refine Z5 ?_ ?_) <;> intro _) | (refine hq _ ?_ ?_) | (exfalso; omega) | (rintro h1 n1 f1) | (intro hle) | assumption | exact trivial | (show _ < _; omega) | (show _ ≤ _; omega) | (show ¬ (_ : Nat) = _; omega) | (show (_ : Nat) ≠ _; omega) | (show (_ : Nat) = _; omega) | (intro _; intros) | (refine ⟨_, by assumption, ?_⟩) | refine And.intro ?_ ?_))
  rw [if_neg hs1] at hq
  generalize sub inp p u.1 = sb at *
  by_cases hz : k = 3 ∨ sb.all (· == 0) = true
  case neg => rw [if_neg hz] at hq; exact hq.elim
  rw [if_pos hz] at hq
  have hkz : k = 3 ∨ (k = 2 ∧ sb.all (· == 0) = true) := by
    rcases hz with e | e
    · exact .inl e
    · rcases hk23 with e2 | e2
      · exact .inr ⟨e2, e⟩
      · exact .inl e2
  clear hk23 hz
  by_cases hn1 : n ≥ 1048576
  · rw [if_pos hn1, ZU] at hq
    have hO : Zgq E T ds de dt inp pr e0 n := Ze9 hT (show n = 1048576 by omega)
    clear hT hk
    rcases hkz with rfl | ⟨rfl, h0⟩
    all_goals
      refine Zp h173 ?_
      unfold Zs
      repeat' (with_reducible (first | refine Za ?_ | refine Zb ?_ | refine Zk ?_ | refine Zj ?_ | refine Zd ?_ | refine Z3 ?_ | refine Zc ?_ | refine Zl ?_ | refine Z9 ?_ | refine Z4 ?_ | refine Ze ?_ | refine hRO ?_ ?_ ?_ ?_ ?_ | refine hTK ?_ ?_ ?_ | refine hO (p := p + u.1) ?_ ?_ | refine vc228 h228 hsl h0 ?_ | simp (maxSteps := 2000000) (disch := first | assumption | omega | (simp only [Z1, Z0, List.length_cons, List.length_nil, List.length_append, List.length_take, List.length_drop]; omega) | fail) only [go_sem, -Int.reduceOfNat, *] | ((first | refine Zn ?_ ?_ | refine Zh ?_ ?_ | refine Zm ?_ ?_ | refine Zf ?_ ?_ | refine Zg ?_ ?_ | refine Z5 ?_ ?_) <;> intro _) | (refine hq _ ?_ ?_) | (exfalso; omega) | (rintro h1 n1 f1) | (intro hle) | assumption | exact trivial | (show _ < _; omega) | (show _ ≤ _; omega) | (show ¬ (_ : Nat) = _; omega) | (show (_ : Nat) ≠ _; omega) | (show (_ : Nat) = _; omega) | (intro _; intros) | (refine ⟨_, by assumption, ?_⟩) | refine And.intro ?_ ?_))
  · rw [if_neg hn1, Yx] at hq
    have hO : Zkr E T ds de dt inp pr e0 n := Zhq hT (show n < 1048576 by omega)
    clear hT hk
    rcases hkz with rfl | ⟨rfl, h0⟩
    all_goals
      refine Zp h173 ?_
      unfold Zs
      repeat' (with_reducible (first | refine Za ?_ | refine Zb ?_ | refine Zk ?_ | refine Zj ?_ | refine Zd ?_ | refine Z3 ?_ | refine Zc ?_ | refine Zl ?_ | refine Z9 ?_ | refine Z4 ?_ | refine Ze ?_ | refine hRO ?_ ?_ ?_ ?_ ?_ | refine hTK ?_ ?_ ?_ | refine hO (p := p + u.1) ?_ ?_ | refine vc228 h228 hsl h0 ?_ | simp (maxSteps := 2000000) (disch := first | assumption | omega | (simp only [Z1, Z0, List.length_cons, List.length_nil, List.length_append, List.length_take, List.length_drop]; omega) | fail) only [go_sem, -Int.reduceOfNat, *] | ((first | refine Zn ?_ ?_ | refine Zh ?_ ?_ | refine Zm ?_ ?_ | refine Zf ?_ ?_ | refine Zg ?_ ?_ | refine Z5 ?_ ?_) <;> intro _) | (show Q _ _; refine hq _ _ _ _ _ Zf3 ?_ ?_ ?_) | (exfalso; omega) | (rintro h1 n1 f1) | (intro hle) | assumption | exact trivial | (show _ < _; omega) | (show _ ≤ _; omega) | (show ¬ (_ : Nat) = _; omega) | (show (_ : Nat) ≠ _; omega) | (show (_ : Nat) = _; omega) | (intro _; intros) | (refine ⟨_, by assumption, ?_⟩) | refine And.intro ?_ ?_))
end
end
end Run
end
end Go.Abs
