/- A field: walks of the program. -/
import Derived.Test.YthifolidfjpdkaaGreatDoorReM
set_option linter.unusedVariables false
set_option linter.unusedSimpArgs false
namespace Go.Abs
noncomputable section
namespace Run
variable {E : Env} {T : Nat → Yd}
set_option maxHeartbeats 4000000
set_option maxRecDepth 100000
attribute [local go_sem] Zdv UJ Zdx UH UQ UG UM Zdu UL UK Zdt Wa US W7 UN V1 W9 YL V3 Zbi UU V0 UO UR UT V4 X8 V7 UP W8 W6 UI V5 V6 Zdz Zd0 UW Zaf Zab Wc Wb YM Zaa UZ Zdy Va Zai Zac Zag Vd Zad UX Zae UV V9 UY Vb Zah V8 Vc Zd1 Zak Zd5 Zaj Zd2 Zi0 Zi1 Ziy Ziz Zd3 Zd4 Za1 Za0 Za2 Za7 Za6 Za8 Zek Zej VA VB Vz Zd9 Vx Vy Vw Vt Zaw Wk Vq Vr Wm Wn Zaz Zay Zax Wj Xo W1 Zao Zeb Zeg Zpv Xr Xq Vo Zau Wo Vp Yu Y5 Xt YS WK patch YQ YR Xn Xm Wy Wx X1 X2 W5 VG Wu Xu YV Xp Wr XP Xs YO Yf YT mem_cons Zei Zea Xk Option.map_some Option.map_none Vv Wp Ws Wq Zav Vu Wl Vs YP X4 XA Xv XB Wz Xw Xz Xx YW Xy Vl Wh Vn Vi Zas Vj Vm Vk Wi Wg YD VT WH Zfx Zcy Zc3 Zb3 Zeo Zsi Xg XU VH WQ YN Xl YU Yv Yn X7 ZZ X5 List.drop_succ_cons List.drop_zero List.drop_nil List.take_succ_cons List.take_zero List.take_nil List.length_cons List.length_nil List.length_append List.cons_append List.nil_append Nat.reduceAdd Nat.reduceEqDiff Nat.reduceLeDiff Nat.reduceLT List.cons.injEq reduceCtorEq eq_self not_true_eq_false not_false_eq_true and_false false_and true_or or_true decide_true decide_false Bool.and_self Bool.and_true Bool.true_and Bool.true_or Bool.or_true Bool.false_or Bool.or_false Bool.false_and Bool.and_false Bool.not_true Bool.not_false cond_true cond_false true_and and_true Zex Zef Zen reduceIte Nat.add_zero Nat.zero_add Nat.add_sub_cancel Nat.reduceMul Nat.reduceSub Nat.reduceBEq List.map_cons List.map_nil Z1 Z0 Yw ZG Zr Zv Wd Zd6 XQ Yo Y0 Wf We XH XG and_assoc exists_and_left D.str.injEq Nat.lt_irrefl Nat.not_lt_zero true_implies false_implies implies_true forall_const ge_iff_le gt_iff_lt Nat.sub_zero List.append_assoc Option.some.injEq AObj.cells.injEq D.int.injEq D.ptr.injEq Int.ofNat.injEq exists_eq_left' D.v.injEq Value.bool.injEq D.agg.injEq Nat.mul_one
variable {h : H} {Q : D → H → Prop} {R : Y1}
section
variable {F : XF} {crc : Zkz} {ds de dt : D} {inp : List Nat} {pr ps p e0 n : Nat} {env : Ev} {fp : D} {kind : Nat → Ev → Nat → Nat → Nat → RO V}
abbrev itC (y : XI) : List D := [.str y.nm, .int .i64 (.ofNat y.ty), .int .i64 (.ofNat y.der), .str y.a, .str y.b, .int .i64 y.wh, .int .i64 (.ofNat 0), .v (.bool false), .v (.slice none 0 0)]
def FQ (x : RO (V × Ev × Al)) (fp : D) (inp : List Nat) (pr ps pm e0 : Nat) (h : H) (Q : D → H → Prop) (R : Y1) : Prop :=
  match x with
  | .ok (v, env, al) p n => ∀ h' a b c d es, Rep v [a, b, c, d] → h.next ≤ h'.next → (∀ x, x < h.next → x ≠ pr → x ≠ ps → x ≠ pm → hget h'.mem x = hget h.mem x) → hget h'.mem pr = some (RC fp inp p e0 n) → hget h'.mem ps = some (Zfz pr env) → hget h'.mem pm = some (.map es) → Ztf al es → Q (.agg [a, b, c, d]) h'
  | .err p e => ∀ h', h.next ≤ h'.next → (∀ x, x < h.next → x ≠ pr → x ≠ ps → x ≠ pm → hget h'.mem x = hget h.mem x) → R (Zfv p e) h'
  | .oof => False
variable {pm : Nat} {al : Al} {es : List (D × D)}
theorem Zte {v : V} : FQ (.ok (v, env, al) p n) fp inp pr ps pm e0 h Q R ↔ ∀ h' a b c d es, Rep v [a, b, c, d] → h.next ≤ h'.next → (∀ x, x < h.next → x ≠ pr → x ≠ ps → x ≠ pm → hget h'.mem x = hget h.mem x) → hget h'.mem pr = some (RC fp inp p e0 n) → hget h'.mem ps = some (Zfz pr env) → hget h'.mem pm = some (.map es) → Ztf al es → Q (.agg [a, b, c, d]) h' := Iff.rfl
theorem Zqo {e : Nat} : FQ (.err p e) fp inp pr ps pm e0 h Q R ↔ ∀ h', h.next ≤ h'.next → (∀ x, x < h.next → x ≠ pr → x ≠ ps → x ≠ pm → hget h'.mem x = hget h.mem x) → R (Zfv p e) h' := Iff.rfl
theorem vc88 (hT : RT E T F ds de dt) (h88 : T 88 = q88) (h89 : T 89 = q89) (h86 : T 86 = Xb Zcd) (ih : VK E T inp ds de dt kind) {y : XI} (hder : y.der ≤ 2) (hwh : y.wh = .negSucc 0 ∨ ∃ a, y.wh = .ofNat a) {t : XT'} (hty : F.ts[y.ty]? = some t) (at_ : At_ inp pr ps p e0 n env (Y7 ds de dt) h) (hl2 : env.length < 1000) (hm : hget h.mem pm = some (.map es)) (hal : Ztf al es) (npm : pm < h.next) (pm1 : pm ≠ pr) (pm2 : pm ≠ ps) (hq : FQ (VM F crc inp kind y e0 env al p n) (Y7 ds de dt) inp pr ps pm e0 h Q R) : VC E T 88 [.ptr ps 0, .agg (itC y), .map pm] h Q R := by
  unfold VM at hq
  cases hhas : Zkq y.nm al with
  | true => rw [hhas, if_pos rfl] at hq; exact hq.elim
  | false =>
  rw [hhas, if_neg (by decide)] at hq
  obtain ⟨hr, hs, np, ns, ne, hp, he, hn, hl⟩ := at_
  have hKD : ∀ {h : H} {Q : D → H → Prop} {R : Y1}, hget h.mem pr = some (RC (Y7 ds de dt) inp p e0 n) → hget h.mem ps = some (Zfz pr env) → pr < h.next → ps < h.next → KQ (kind y.ty env p e0 n) (Y7 ds de dt) inp pr e0 h Q R → VC E T 123 [.ptr ps 0, .int .i64 (.ofNat y.ty)] h Q R := fun a1 a2 a3 a4 a5 => ih ⟨a1, a2, a3, a4, ne, hp, he, hn, hl⟩ a5
  have ne' : pr ≠ ps := fun c => ne c.symm
  have pm1' : pr ≠ pm := fun c => pm1 c.symm
  have pm2' : ps ≠ pm := fun c => pm2 c.symm
  cases hXX : kind y.ty env p e0 n with
  | oof => rw [hXX] at hq; exact hq.elim
  | err p' e' =>
    rw [hXX] at hq
    simp only [RO.bind, Zqo] at hq
    clear ih hT hwh hal
    refine Zp h88 ?_
    unfold Zs
    repeat' (with_reducible (first | refine Za ?_ | refine Zb ?_ | refine Zk ?_ | refine Zj ?_ | refine Zd ?_ | refine Z3 ?_ | refine Zc ?_ | refine Zl ?_ | refine Z9 ?_ | refine Z4 ?_ | refine Ze ?_ | refine hKD ?_ ?_ ?_ ?_ ?_ | simp (maxSteps := 2000000) (disch := first | assumption | omega | (simp only [Z1, Z0, List.length_cons, List.length_nil, List.length_append, List.length_take, List.length_drop]; omega) | fail) only [go_sem, -Int.reduceOfNat, *, hXX, ZU] | ((first | refine Zn ?_ ?_ | refine Zh ?_ ?_ | refine Zm ?_ ?_ | refine Zf ?_ ?_ | refine Zg ?_ ?_ | refine Z5 ?_ ?_) <;> intro _ <;> (try (exfalso; omega))) | (refine hq _ ?_ ?_) | (rintro h1 n1 f1) | assumption | exact trivial | (show _ < _; omega) | (show _ ≤ _; omega) | (show ¬ (_ : Nat) = _; omega) | (show (_ : Nat) ≠ _; omega) | (show (_ : Nat) = _; omega) | (intro _; intros) | (refine ⟨_, by assumption, ?_⟩) | refine And.intro ?_ ?_))
  | ok v q m =>
  rw [hXX] at hq
  simp only [RO.bind] at hq
  obtain ⟨k, nv, bs, l⟩ := v
  obtain ⟨c, r, hc, hz, hix⟩ := Un hT hty
  obtain ⟨dk, rfl, hk⟩ := hc
  have htc := Zy hT.rowT
  have hto := ZP hT.rowT
  have hi : Zfp F y.ty = decide (t.k = 0) := by simp only [Zfp, hty]
  rw [if_neg (by omega), if_pos hder, hi] at hq
  have h3 : ¬ y.der = 3 := by omega
  have h4 : ¬ y.der = 4 := by omega
  have he1 := Zfg env
  have he2 := Zba env
  have hl3 : env.length ≤ 1000000 := by omega
  have hset := fun a b c d (hrep : Rep (.mk k nv bs l) [a, b, c, d]) => Ztf.set (s := y.nm) (p := p) (q := q) hrep hal hhas
  clear hk hz hder hi hhas hal
  by_cases hk0 : t.k = 0
  · rw [decide_eq_true hk0] at hq
    simp only [Bool.false_eq_true, if_true, if_false, V.n] at hq
    have hf1 := Zfg (env ++ [(y.nm, nv)])
    have hf2 := Zba (env ++ [(y.nm, nv)])
    rcases hwh with hw | ⟨a, hw⟩
    · rw [hw] at hq
      simp only [Zte] at hq
      clear hT ih
      refine Zp h88 ?_
      unfold Zs
      repeat' (with_reducible (first | refine Za ?_ | refine Zb ?_ | refine Zk ?_ | refine Zj ?_ | refine Zd ?_ | refine Z3 ?_ | refine Zc ?_ | refine Zl ?_ | refine Z9 ?_ | refine Z4 ?_ | refine Ze ?_ | refine hKD ?_ ?_ ?_ ?_ ?_ | refine vc86 h86 hl3 ?_ | simp (maxSteps := 2000000) (disch := first | assumption | omega | (simp only [Z1, Z0, List.length_cons, List.length_nil, List.length_append, List.length_take, List.length_drop]; omega) | fail) only [go_sem, -Int.reduceOfNat, *, hXX, Yx, Zdw, Zch, Zfc, hk0] | ((first | refine Zn ?_ ?_ | refine Zh ?_ ?_ | refine Zm ?_ ?_ | refine Zf ?_ ?_ | refine Zg ?_ ?_ | refine Z5 ?_ ?_) <;> intro _ <;> (try (exfalso; omega))) | (show Q _ _; refine hq _ _ _ _ _ es2 hrep ?_ ?_ ?_ ?_ ?_ al2) | (rintro h1 a b c d hrep n1 f1 m1; obtain ⟨oa, ob, oc, od⟩ := ZX hrep; obtain ⟨es2, s2, al2⟩ := hset a b c d hrep; have s3 := fun l h => Zgx (l := l) (h := h) s2; obtain ⟨L, hcc, _, hsl⟩ := hrep.inv; have sd := Zcl hsl; simp only [List.cons.injEq, and_true] at hcc; obtain ⟨rfl, rfl, rfl, rfl⟩ := hcc; clear s2) | assumption | exact trivial | (show _ < _; omega) | (show _ ≤ _; omega) | (show ¬ (_ : Nat) = _; omega) | (show (_ : Nat) ≠ _; omega) | (show (_ : Nat) = _; omega) | (intro _; intros) | (refine ⟨_, by assumption, ?_⟩) | refine And.intro ?_ ?_))
    · rw [hw] at hq
      simp only [] at hq
      have hel : (env ++ [(y.nm, nv)]).length ≤ 1000 := by simp only [List.length_append, List.length_cons, List.length_nil]; omega
      generalize hu : Zi7 F (env ++ [(y.nm, nv)]) (.ofNat a) = u at hq
      by_cases u0 : u.2 = 0
      case neg => rw [if_neg u0] at hq; exact hq.elim
      have u9 : u.2 ≠ 99 := by omega
      have hRK : ∀ {h : H} {Q : D → H → Prop} {R : Y1}, hget h.mem pr = some (RC (Y7 ds de dt) inp q e0 m) → hget h.mem ps = some (Zfz pr (env ++ [(y.nm, nv)])) → pr < h.next → ps < h.next → (u.2 = 0 → ∀ h', h.next ≤ h'.next → (∀ l, l < h.next → hget h'.mem l = hget h.mem l) → Q (.int .u64 (.ofNat u.1)) h') → (u.2 ≠ 0 → ∀ h', h.next ≤ h'.next → (∀ l, l < h.next → hget h'.mem l = hget h.mem l) → R (Zfv q u.2) h') → VC E T 125 [.ptr ps 0, .int .i64 (.ofNat a)] h Q R := fun a1 a2 a3 a4 a5 a6 => Zan hT hu u9 hel a1 a2 a3 a4 a5 a6
      have hMU : ∀ {z : Bool} {a b c d : D} {h : H} {Q : D → H → Prop} {R : Y1}, a.one = true → b.one = true → c.one = true → d.one = true → (z = true → ∀ h', h.next ≤ h'.next → (∀ l, l < h.next → hget h'.mem l = hget h.mem l) → Q (.tup []) h') → (z = false → ∀ h', h.next ≤ h'.next → (∀ l, l < h.next → hget h'.mem l = hget h.mem l) → R (Zfv p 22) h') → VC E T 89 [.ptr ps 0, .v (.bool z), .agg [.int .i64 (.ofNat p), .int .i64 (.ofNat q), a, b, c, d], .int .i64 (.ofNat 22)] h Q R := fun o1 o2 o3 o4 a1 a2 => vc89 h89 ⟨o1, o2, o3, o4⟩ a1 a2
      clear hu hT ih hel
      rw [if_pos u0] at hq
      by_cases uz : u.1 = 0
      · rw [if_pos uz] at hq
        simp only [Zqo] at hq
        refine Zp h88 ?_
        unfold Zs
        repeat' (with_reducible (first | refine Za ?_ | refine Zb ?_ | refine Zk ?_ | refine Zj ?_ | refine Zd ?_ | refine Z3 ?_ | refine Zc ?_ | refine Zl ?_ | refine Z9 ?_ | refine Z4 ?_ | refine Ze ?_ | refine hKD ?_ ?_ ?_ ?_ ?_ | refine vc86 h86 hl3 ?_ | refine hRK ?_ ?_ ?_ ?_ ?_ ?_ | refine hMU ?_ ?_ ?_ ?_ ?_ ?_ | simp (maxSteps := 2000000) (disch := first | assumption | omega | (simp only [Z1, Z0, List.length_cons, List.length_nil, List.length_append, List.length_take, List.length_drop]; omega) | fail) only [go_sem, -Int.reduceOfNat, *, hXX, Yx, Zdw, Zch, Zfc, hk0, hw, uz] | ((first | refine Zn ?_ ?_ | refine Zh ?_ ?_ | refine Zm ?_ ?_ | refine Zf ?_ ?_ | refine Zg ?_ ?_ | refine Z5 ?_ ?_) <;> intro _ <;> (try (exfalso; omega))) | (exfalso; omega) | (exfalso; exact absurd u0 (by assumption)) | (refine hq _ ?_ ?_) | (rintro h1 a b c d hrep n1 f1 m1; obtain ⟨oa, ob, oc, od⟩ := ZX hrep; obtain ⟨es2, s2, al2⟩ := hset a b c d hrep; have s3 := fun l h => Zgx (l := l) (h := h) s2; obtain ⟨L, hcc, _, hsl⟩ := hrep.inv; have sd := Zcl hsl; simp only [List.cons.injEq, and_true] at hcc; obtain ⟨rfl, rfl, rfl, rfl⟩ := hcc; clear s2) | (intro uu) | (rintro h2 n2 f2) | assumption | exact trivial | (show _ < _; omega) | (show _ ≤ _; omega) | (show ¬ (_ : Nat) = _; omega) | (show (_ : Nat) ≠ _; omega) | (show (_ : Nat) = _; omega) | (intro _; intros) | (refine ⟨_, by assumption, ?_⟩) | refine And.intro ?_ ?_))
      · rw [if_neg uz] at hq
        simp only [Zte] at hq
        refine Zp h88 ?_
        unfold Zs
        repeat' (with_reducible (first | refine Za ?_ | refine Zb ?_ | refine Zk ?_ | refine Zj ?_ | refine Zd ?_ | refine Z3 ?_ | refine Zc ?_ | refine Zl ?_ | refine Z9 ?_ | refine Z4 ?_ | refine Ze ?_ | refine hKD ?_ ?_ ?_ ?_ ?_ | refine vc86 h86 hl3 ?_ | refine hRK ?_ ?_ ?_ ?_ ?_ ?_ | refine hMU ?_ ?_ ?_ ?_ ?_ ?_ | simp (maxSteps := 2000000) (disch := first | assumption | omega | (simp only [Z1, Z0, List.length_cons, List.length_nil, List.length_append, List.length_take, List.length_drop]; omega) | fail) only [go_sem, -Int.reduceOfNat, *, hXX, Yx, Zdw, Zch, Zfc, hk0, hw, uz] | ((first | refine Zn ?_ ?_ | refine Zh ?_ ?_ | refine Zm ?_ ?_ | refine Zf ?_ ?_ | refine Zg ?_ ?_ | refine Z5 ?_ ?_) <;> intro _ <;> (try (exfalso; omega))) | (exfalso; omega) | (exfalso; exact absurd u0 (by assumption)) | (show Q _ _; refine hq _ _ _ _ _ es2 hrep ?_ ?_ ?_ ?_ ?_ al2) | (rintro h1 a b c d hrep n1 f1 m1; obtain ⟨oa, ob, oc, od⟩ := ZX hrep; obtain ⟨es2, s2, al2⟩ := hset a b c d hrep; have s3 := fun l h => Zgx (l := l) (h := h) s2; obtain ⟨L, hcc, _, hsl⟩ := hrep.inv; have sd := Zcl hsl; simp only [List.cons.injEq, and_true] at hcc; obtain ⟨rfl, rfl, rfl, rfl⟩ := hcc; clear s2) | (intro uu) | (rintro h2 n2 f2) | assumption | exact trivial | (show _ < _; omega) | (show _ ≤ _; omega) | (show ¬ (_ : Nat) = _; omega) | (show (_ : Nat) ≠ _; omega) | (show (_ : Nat) = _; omega) | (intro _; intros) | (refine ⟨_, by assumption, ?_⟩) | refine And.intro ?_ ?_))
  · rw [decide_eq_false hk0] at hq
    simp only [Bool.false_eq_true, if_true, if_false, V.n] at hq
    have hf1 := Zfg env
    have hf2 := Zba env
    rcases hwh with hw | ⟨a, hw⟩
    · rw [hw] at hq
      simp only [Zte] at hq
      clear hT ih
      refine Zp h88 ?_
      unfold Zs
      repeat' (with_reducible (first | refine Za ?_ | refine Zb ?_ | refine Zk ?_ | refine Zj ?_ | refine Zd ?_ | refine Z3 ?_ | refine Zc ?_ | refine Zl ?_ | refine Z9 ?_ | refine Z4 ?_ | refine Ze ?_ | refine hKD ?_ ?_ ?_ ?_ ?_ | simp (maxSteps := 2000000) (disch := first | assumption | omega | (simp only [Z1, Z0, List.length_cons, List.length_nil, List.length_append, List.length_take, List.length_drop]; omega) | fail) only [go_sem, -Int.reduceOfNat, *, hXX, Yx, Zdw, Zch, Zfc, hk0] | ((first | refine Zn ?_ ?_ | refine Zh ?_ ?_ | refine Zm ?_ ?_ | refine Zf ?_ ?_ | refine Zg ?_ ?_ | refine Z5 ?_ ?_) <;> intro _ <;> (try (exfalso; omega))) | (show Q _ _; refine hq _ _ _ _ _ es2 hrep ?_ ?_ ?_ ?_ ?_ al2) | (rintro h1 a b c d hrep n1 f1 m1; obtain ⟨oa, ob, oc, od⟩ := ZX hrep; obtain ⟨es2, s2, al2⟩ := hset a b c d hrep; have s3 := fun l h => Zgx (l := l) (h := h) s2; obtain ⟨L, hcc, _, hsl⟩ := hrep.inv; have sd := Zcl hsl; simp only [List.cons.injEq, and_true] at hcc; obtain ⟨rfl, rfl, rfl, rfl⟩ := hcc; clear s2) | assumption | exact trivial | (show _ < _; omega) | (show _ ≤ _; omega) | (show ¬ (_ : Nat) = _; omega) | (show (_ : Nat) ≠ _; omega) | (show (_ : Nat) = _; omega) | (intro _; intros) | (refine ⟨_, by assumption, ?_⟩) | refine And.intro ?_ ?_))
    · rw [hw] at hq
      simp only [] at hq
      have hel : env.length ≤ 1000 := by omega
      generalize hu : Zi7 F env (.ofNat a) = u at hq
      by_cases u0 : u.2 = 0
      case neg => rw [if_neg u0] at hq; exact hq.elim
      have u9 : u.2 ≠ 99 := by omega
      have hRK : ∀ {h : H} {Q : D → H → Prop} {R : Y1}, hget h.mem pr = some (RC (Y7 ds de dt) inp q e0 m) → hget h.mem ps = some (Zfz pr env) → pr < h.next → ps < h.next → (u.2 = 0 → ∀ h', h.next ≤ h'.next → (∀ l, l < h.next → hget h'.mem l = hget h.mem l) → Q (.int .u64 (.ofNat u.1)) h') → (u.2 ≠ 0 → ∀ h', h.next ≤ h'.next → (∀ l, l < h.next → hget h'.mem l = hget h.mem l) → R (Zfv q u.2) h') → VC E T 125 [.ptr ps 0, .int .i64 (.ofNat a)] h Q R := fun a1 a2 a3 a4 a5 a6 => Zan hT hu u9 hel a1 a2 a3 a4 a5 a6
      have hMU : ∀ {z : Bool} {a b c d : D} {h : H} {Q : D → H → Prop} {R : Y1}, a.one = true → b.one = true → c.one = true → d.one = true → (z = true → ∀ h', h.next ≤ h'.next → (∀ l, l < h.next → hget h'.mem l = hget h.mem l) → Q (.tup []) h') → (z = false → ∀ h', h.next ≤ h'.next → (∀ l, l < h.next → hget h'.mem l = hget h.mem l) → R (Zfv p 22) h') → VC E T 89 [.ptr ps 0, .v (.bool z), .agg [.int .i64 (.ofNat p), .int .i64 (.ofNat q), a, b, c, d], .int .i64 (.ofNat 22)] h Q R := fun o1 o2 o3 o4 a1 a2 => vc89 h89 ⟨o1, o2, o3, o4⟩ a1 a2
      clear hu hT ih hel
      rw [if_pos u0] at hq
      by_cases uz : u.1 = 0
      · rw [if_pos uz] at hq
        simp only [Zqo] at hq
        refine Zp h88 ?_
        unfold Zs
        repeat' (with_reducible (first | refine Za ?_ | refine Zb ?_ | refine Zk ?_ | refine Zj ?_ | refine Zd ?_ | refine Z3 ?_ | refine Zc ?_ | refine Zl ?_ | refine Z9 ?_ | refine Z4 ?_ | refine Ze ?_ | refine hKD ?_ ?_ ?_ ?_ ?_ | refine hRK ?_ ?_ ?_ ?_ ?_ ?_ | refine hMU ?_ ?_ ?_ ?_ ?_ ?_ | simp (maxSteps := 2000000) (disch := first | assumption | omega | (simp only [Z1, Z0, List.length_cons, List.length_nil, List.length_append, List.length_take, List.length_drop]; omega) | fail) only [go_sem, -Int.reduceOfNat, *, hXX, Yx, Zdw, Zch, Zfc, hk0, hw, uz] | ((first | refine Zn ?_ ?_ | refine Zh ?_ ?_ | refine Zm ?_ ?_ | refine Zf ?_ ?_ | refine Zg ?_ ?_ | refine Z5 ?_ ?_) <;> intro _ <;> (try (exfalso; omega))) | (exfalso; omega) | (exfalso; exact absurd u0 (by assumption)) | (refine hq _ ?_ ?_) | (rintro h1 a b c d hrep n1 f1 m1; obtain ⟨oa, ob, oc, od⟩ := ZX hrep; obtain ⟨es2, s2, al2⟩ := hset a b c d hrep; have s3 := fun l h => Zgx (l := l) (h := h) s2; obtain ⟨L, hcc, _, hsl⟩ := hrep.inv; have sd := Zcl hsl; simp only [List.cons.injEq, and_true] at hcc; obtain ⟨rfl, rfl, rfl, rfl⟩ := hcc; clear s2) | (intro uu) | (rintro h2 n2 f2) | assumption | exact trivial | (show _ < _; omega) | (show _ ≤ _; omega) | (show ¬ (_ : Nat) = _; omega) | (show (_ : Nat) ≠ _; omega) | (show (_ : Nat) = _; omega) | (intro _; intros) | (refine ⟨_, by assumption, ?_⟩) | refine And.intro ?_ ?_))
      · rw [if_neg uz] at hq
        simp only [Zte] at hq
        refine Zp h88 ?_
        unfold Zs
        repeat' (with_reducible (first | refine Za ?_ | refine Zb ?_ | refine Zk ?_ | refine Zj ?_ | refine Zd ?_ | refine Z3 ?_ | refine Zc ?_ | refine Zl ?_ | refine Z9 ?_ | refine Z4 ?_ | refine Ze ?_ | refine hKD ?_ ?_ ?_ ?_ ?_ | refine hRK ?_ ?_ ?_ ?_ ?_ ?_ | refine hMU ?_ ?_ ?_ ?_ ?_ ?_ | simp (maxSteps := 2000000) (disch := first | assumption | omega | (simp only [Z1, Z0, List.length_cons, List.length_nil, List.length_append, List.length_take, List.length_drop]; omega) | fail) only [go_sem, -Int.reduceOfNat, *, hXX, Yx, Zdw, Zch, Zfc, hk0, hw, uz] | ((first | refine Zn ?_ ?_ | refine Zh ?_ ?_ | refine Zm ?_ ?_ | refine Zf ?_ ?_ | refine Zg ?_ ?_ | refine Z5 ?_ ?_) <;> intro _ <;> (try (exfalso; omega))) | (exfalso; omega) | (exfalso; exact absurd u0 (by assumption)) | (show Q _ _; refine hq _ _ _ _ _ es2 hrep ?_ ?_ ?_ ?_ ?_ al2) | (rintro h1 a b c d hrep n1 f1 m1; obtain ⟨oa, ob, oc, od⟩ := ZX hrep; obtain ⟨es2, s2, al2⟩ := hset a b c d hrep; have s3 := fun l h => Zgx (l := l) (h := h) s2; obtain ⟨L, hcc, _, hsl⟩ := hrep.inv; have sd := Zcl hsl; simp only [List.cons.injEq, and_true] at hcc; obtain ⟨rfl, rfl, rfl, rfl⟩ := hcc; clear s2) | (intro uu) | (rintro h2 n2 f2) | assumption | exact trivial | (show _ < _; omega) | (show _ ≤ _; omega) | (show ¬ (_ : Nat) = _; omega) | (show (_ : Nat) ≠ _; omega) | (show (_ : Nat) = _; omega) | (intro _; intros) | (refine ⟨_, by assumption, ?_⟩) | refine And.intro ?_ ?_))
end
end Run
end
end Go.Abs
