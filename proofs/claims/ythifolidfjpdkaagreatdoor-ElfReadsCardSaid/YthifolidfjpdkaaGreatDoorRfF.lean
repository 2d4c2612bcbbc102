/- A builder of text: rules. -/
import Derived.Test.YthifolidfjpdkaaGreatDoorRfA
import Derived.Test.YthifolidfjpdkaaGreatDoorNdTable
set_option linter.unusedVariables false
set_option linter.unusedSimpArgs false
namespace Go.Abs
noncomputable section
namespace Run
variable {E : Env} {T : Nat → Yd}
set_option maxHeartbeats 4000000
set_option maxRecDepth 100000
theorem Zvz {G : Prop} (g : G := by
  repeat' (with_reducible (first | refine Za ?_ | refine Zb ?_ | refine Zk ?_ | refine Zj ?_ | refine Zd ?_ | refine Z3 ?_ | refine Zc ?_ | refine Zl ?_ | refine Z9 ?_ | refine Z4 ?_ | refine Ze ?_ | simp (maxSteps := 2000000) (disch := first | assumption | omega | (simp only [Z1, Z0, List.length_cons, List.length_nil, List.length_append, List.length_take, List.length_drop]; omega) | fail) only [go_sem, -Int.reduceOfNat, *, Zcb, X8, Option.map_none, Option.map_some, Zt2, hmd, Zgb, Zk8, Zid] | ((first | refine Zn ?_ ?_ | refine Zh ?_ ?_ | refine Zm ?_ ?_ | refine Zf ?_ ?_ | refine Zg ?_ ?_ | refine Z5 ?_ ?_) <;> intro _ <;> (try (exfalso; omega))) | assumption | exact trivial | (show _ < _; omega) | (show _ ≤ _; omega) | (show ¬ (_ : Nat) = _; omega) | (show (_ : Nat) ≠ _; omega) | (show (_ : Nat) = _; omega) | (intro _; intros) | (refine ⟨_, by assumption, ?_⟩) | refine And.intro ?_ ?_))) : G := g
theorem Zvy {G : Prop} (g : G := by
  repeat' (with_reducible (first | refine Za ?_ | refine Zb ?_ | refine Zk ?_ | refine Zj ?_ | refine Zd ?_ | refine Z3 ?_ | refine Zc ?_ | refine Zl ?_ | refine Z9 ?_ | refine Z4 ?_ | refine Ze ?_ | simp (maxSteps := 2000000) (disch := first | assumption | omega | (simp only [Z1, Z0, List.length_cons, List.length_nil, List.length_append, List.length_take, List.length_drop]; omega) | fail) only [go_sem, -Int.reduceOfNat, *] | ((first | refine Zn ?_ ?_ | refine Zh ?_ ?_ | refine Zm ?_ ?_ | refine Zf ?_ ?_ | refine Zg ?_ ?_ | refine Z5 ?_ ?_) <;> intro _ <;> (try (exfalso; omega))) | (show Q _ _; refine hq _ _ _ ?_ ?_ (by assumption)) | assumption | exact trivial | (show _ < _; omega) | (show _ ≤ _; omega) | (show ¬ (_ : Nat) = _; omega) | (show (_ : Nat) ≠ _; omega) | (show (_ : Nat) = _; omega) | (intro _; intros) | (refine ⟨_, by assumption, ?_⟩) | refine And.intro ?_ ?_))) : G := g
attribute [local go_sem] Zdv UJ Zdx UH UQ UG UM Zdu UL UK Zdt Wa US W7 UN V1 W9 YL V3 Zbi UU V0 UO UR UT V4 X8 V7 UP W8 W6 UI V5 V6 Zdz Zd0 UW Zaf Zab Wc Wb YM Zaa UZ Zdy Va Zai Zac Zag Vd Zad UX Zae UV V9 UY Vb Zah V8 Vc Zd1 Zak Zd5 Zaj Zd2 Zi0 Zi1 Ziy Ziz Zd3 Zd4 Za1 Za0 Za2 Za7 Za6 Za8 Zek Zej VA VB Vz Zd9 Vx Vy Vw Vt Zaw Wk Vq Vr Wm Wn Zaz Zay Zax Wj Xo W1 Zao Zeb Zeg Zpv Xr Xq Vo Zau Wo Vp Yu Y5 Xt YS WK patch YQ YR Xn Xm Wy Wx X1 X2 W5 VG Wu Xu YV Xp Wr XP Xs YO Yf YT mem_cons Zei Zea Xk Option.map_some Option.map_none Vv Wp Ws Wq Zav Vu Wl Vs YP X4 XA Xv XB Wz Xw Xz Xx YW Xy Vl Wh Vn Vi Zas Vj Vm Vk Wi Wg YD VT WH Zfx Zcy Zc3 Zb3 Zeo Zsi Xg XU VH WQ YN Xl YU Yv Yn X7 ZZ X5 List.drop_succ_cons List.drop_zero List.drop_nil List.take_succ_cons List.take_zero List.take_nil List.length_cons List.length_nil List.length_append List.cons_append List.nil_append Nat.reduceAdd Nat.reduceEqDiff Nat.reduceLeDiff Nat.reduceLT List.cons.injEq reduceCtorEq eq_self not_true_eq_false not_false_eq_true and_false false_and true_or or_true decide_true decide_false Bool.and_self Bool.and_true Bool.true_and Bool.true_or Bool.or_true Bool.false_or Bool.or_false Bool.false_and Bool.and_false Bool.not_true Bool.not_false cond_true cond_false true_and and_true Zex Zef Zen reduceIte Nat.add_zero Nat.zero_add Nat.add_sub_cancel Nat.reduceMul Nat.reduceSub Nat.reduceBEq List.map_cons List.map_nil Z1 Z0 Yw ZG Zr Zv Wd Zd6 XQ Yo Y0 Wf We XH XG and_assoc exists_and_left D.str.injEq Nat.lt_irrefl Nat.not_lt_zero true_implies false_implies implies_true forall_const ge_iff_le gt_iff_lt Nat.sub_zero List.append_assoc Option.some.injEq AObj.cells.injEq D.int.injEq D.ptr.injEq Int.ofNat.injEq exists_eq_left' D.v.injEq Value.bool.injEq D.agg.injEq Nat.mul_one Zlk Zu4
section
variable {h : H} {Q : D → H → Prop} {R : Y1}
def q20 : Yd := Uz Zs (fun t h => .ok (.tup [(Gt 4) t, (Gt 5) t]) h)
 (Z2 (Z7<|fo (ZC (kI 0)) (St 4)<|fo (ZC (kD (.v .nilIface))) (St 5)<|Z8)
 (Z2 (Z7<|mM 0 6<|mK 47 [(Gt 6)] 7<|Z8)
 (Z2 (Z7<|mM 0 8<|mM 0 9<|mN 9 10<|mF 1 10 11<|mL 11 12<|mM 1 13<|fo (u2 (Zmb 5) (Gt 12) (Gt 13)) (St 14)<|mN 8 15<|mF 1 15 16<|mS 16 (Gt 14)<|Z8)
 (Z2 (Z7<|mM 1 17<|fo (u1 WD (Gt 17)) (St 18)<|mM 18 4<|fo (ZC (kD (.v .nilIface))) (St 5)<|Z8)
 ZF))))
def q22 : Yd := Uz Zs (fun t h => .ok (Gt 2 t) h)
 (Z2 (Z7<|fo (ZC (kI 0)) (St 2)<|Z8)
 (Z2 (Z7<|mM 0 3<|mN 3 4<|mF 1 4 5<|mL 5 6<|fo (u1 YI (Gt 6)) (St 7)<|mM 7 2<|Z8)
 ZF))
def Zif (e : TypeId) (s x : D) (h : H) : O D := VV h e s x
theorem Zgs {g1 g2 : Tr D → D} {p : D → Tr D → Tr D} {k : FR} {t : Tr D} {h : H} {Q : UD} {R : Y1} {e : TypeId} : VR E T (fo (u2 (Zmb e) g1 g2) p k) t h Q R ↔ vO E T (Zif e (g1 t) (g2 t) h) p k t Q R := by
  rw [Zjj]; exact YH fun _ => rfl
theorem Zjs {e : TypeId} {b : Nat} {bs : List Nat} (hl : (b :: bs).length ≤ 140737488355328) : Zif e (.v (.slice none 0 0)) (.str (b :: bs)) h = .ok (.sl h.next (b :: bs).length (Yq (b :: bs))) (Ua h (.tip (b :: bs).length e)) := by
  simp only [List.length_cons] at hl
  simp only [Zif, VV, List.length_cons, Ur, Nat.ble_eq_true_of_le hl]
  rfl
theorem Zmk {e : TypeId} {b id n : Nat} {bs : List Nat} {cs : List D} (hi : hget h.mem id = some (.tip n e)) (hc : cs.length = n) (hl : n + (b :: bs).length ≤ 140737488355328) : Zif e (.sl id n cs) (.str (b :: bs)) h = .ok (.sl id (n + (b :: bs).length) (cs ++ Yq (b :: bs))) (YX h id (.tip (n + (b :: bs).length) e)) := by
  unfold Zif VV
  simp only [VS]
  rw [Yg] at hi
  subst hc
  simp only [List.length_cons] at hl ⊢
  rw [show Nat.beq (bs.length + 1) 0 = false from rfl]
  simp only [hi, cond_false, Nat.beq_refl, Bool.true_and, Nat.ble_eq_true_of_le hl, cond_true]
theorem vc47f (h47 : T 47 = Xb (X9 82)) {l : Nat} {y : D} (hm : hget h.mem l = some (.cells 82 [.v (.pointer none), y])) (hq : Q (.tup []) (YX h l (.cells 82 [.ptr l 0, y]))) : VC E T 47 [.ptr l 0] h Q R := Zcj h47 (by
  rw [Yg] at hm
  unfold X9
  simp only [hm]
  rw [← VS]
  exact hq)
theorem Zu5 (h47 : T 47 = Xb (X9 82)) {l : Nat} {y : D} (hm : hget h.mem l = some (.cells 82 [.ptr l 0, y])) (hq : Q (.tup []) h) : VC E T 47 [.ptr l 0] h Q R := Zcj h47 (by
  rw [Yg] at hm
  unfold X9
  simp only [hm, Nat.beq_refl]
  exact hq)
def BU (h : H) (l id : Nat) (bs : List Nat) : Prop :=
  (bs = [] ∧ (hget h.mem l = some (.cells 82 [.v (.pointer none), .v (.slice none 0 0)]) ∨ hget h.mem l = some (.cells 82 [.ptr l 0, .v (.slice none 0 0)])) ∧ id = l) ∨
  (hget h.mem l = some (.cells 82 [.ptr l 0, .sl id bs.length (Yq bs)]) ∧ hget h.mem id = some (.tip bs.length 5) ∧ id ≠ l ∧ bs ≠ [])
theorem Zml {e : TypeId} {x : D} (hx : x = .v (.slice none 0 0) ∨ ∃ id n cs, x = .sl id n cs) : Zif e x (.str []) h = .ok x h := by
  rcases hx with rfl | ⟨id, n, cs, rfl⟩ <;> rfl
theorem Zuw {s : List Nat} : (Yq s).length = s.length := List.length_map ..
theorem Zux {s u : List Nat} : Yq s ++ Yq u = Yq (s ++ u) := List.map_append.symm
theorem vc22 (h22 : T 22 = q22) {l id : Nat} {bs : List Nat} (hb : BU h l id bs) (hq : Q (.int .i64 (.ofNat bs.length)) h) : VC E T 22 [.ptr l 0] h Q R := by
  rcases hb with ⟨rfl, hb | hb, hi⟩ | ⟨hb, hi, hd, hne⟩
  all_goals
    refine Zp h22 ?_
    unfold Zs
    repeat' (with_reducible (first | refine Za ?_ | refine Zb ?_ | refine Zk ?_ | refine Zj ?_ | refine Zd ?_ | refine Z3 ?_ | refine Zc ?_ | refine Zl ?_ | refine Z9 ?_ | refine Z4 ?_ | refine Ze ?_ | simp (maxSteps := 2000000) (disch := first | assumption | omega | (simp only [Z1, Z0, List.length_cons, List.length_nil, List.length_append, List.length_take, List.length_drop]; omega) | fail) only [go_sem, -Int.reduceOfNat, *] | ((first | refine Zn ?_ ?_ | refine Zh ?_ ?_ | refine Zm ?_ ?_ | refine Zf ?_ ?_ | refine Zg ?_ ?_ | refine Z5 ?_ ?_) <;> intro _ <;> (try (exfalso; omega))) | (show Q _ _; exact hq) | assumption | exact trivial | (show _ < _; omega) | (show _ ≤ _; omega) | (show ¬ (_ : Nat) = _; omega) | (show (_ : Nat) ≠ _; omega) | (show (_ : Nat) = _; omega) | (intro _; intros) | (refine ⟨_, by assumption, ?_⟩) | refine And.intro ?_ ?_))
  all_goals exact hq
theorem vc20e (h47 : T 47 = Xb (X9 82)) (h20 : T 20 = q20) {l : Nat} {b : Nat} {u : List Nat} (hu : (b :: u).length ≤ 140737488355328) (hl : l < h.next) (hb : hget h.mem l = some (.cells 82 [.v (.pointer none), .v (.slice none 0 0)]) ∨ hget h.mem l = some (.cells 82 [.ptr l 0, .v (.slice none 0 0)])) (hq : ∀ h', h.next + 1 = h'.next → (∀ j, j < h.next → j ≠ l → hget h'.mem j = hget h.mem j) → BU h' l h.next (b :: u) → Q (.tup [.int .i64 (.ofNat (b :: u).length), .v .nilIface]) h') : VC E T 20 [.ptr l 0, .str (b :: u)] h Q R := by
  rcases hb with hb | hb
  · refine Zp h20 ?_
    unfold Zs
    repeat' (with_reducible (first | refine Za ?_ | refine Zb ?_ | refine Zk ?_ | refine Zj ?_ | refine Zd ?_ | refine Z3 ?_ | refine Zc ?_ | refine Zl ?_ | refine Z9 ?_ | refine Z4 ?_ | refine Ze ?_ | refine vc47f h47 (by assumption) ?_ | simp (maxSteps := 2000000) (disch := first | assumption | omega | (simp only [Z1, Z0, List.length_cons, List.length_nil, List.length_append, List.length_take, List.length_drop]; omega) | fail) only [go_sem, -Int.reduceOfNat, *, Zgs, Zjs, Zmk, patch, D.cells, List.drop_succ_cons, List.drop_zero, List.take_succ_cons, List.take_zero] | ((first | refine Zn ?_ ?_ | refine Zh ?_ ?_ | refine Zm ?_ ?_ | refine Zf ?_ ?_ | refine Zg ?_ ?_ | refine Z5 ?_ ?_) <;> intro _ <;> (try (exfalso; omega))) | assumption | exact trivial | (show _ < _; omega) | (show _ ≤ _; omega) | (show ¬ (_ : Nat) = _; omega) | (show (_ : Nat) ≠ _; omega) | (show (_ : Nat) = _; omega) | (intro _; intros) | (refine ⟨_, by assumption, ?_⟩) | refine And.intro ?_ ?_))
    refine hq _ rfl (fun j hj hn => ?_) (Or.inr ⟨Zr, ?_, by omega, by simp⟩)
    · rw [Zv hn, ZG (by first | omega | (simp only [Z0]; omega)), Zv hn]
    · rw [Zv (by omega)]; exact Xh rfl
  · refine Zp h20 ?_
    unfold Zs
    repeat' (with_reducible (first | refine Za ?_ | refine Zb ?_ | refine Zk ?_ | refine Zj ?_ | refine Zd ?_ | refine Z3 ?_ | refine Zc ?_ | refine Zl ?_ | refine Z9 ?_ | refine Z4 ?_ | refine Ze ?_ | refine Zu5 h47 (by assumption) ?_ | simp (maxSteps := 2000000) (disch := first | assumption | omega | (simp only [Z1, Z0, List.length_cons, List.length_nil, List.length_append, List.length_take, List.length_drop]; omega) | fail) only [go_sem, -Int.reduceOfNat, *, Zgs, Zjs, Zmk, patch, D.cells, List.drop_succ_cons, List.drop_zero, List.take_succ_cons, List.take_zero] | ((first | refine Zn ?_ ?_ | refine Zh ?_ ?_ | refine Zm ?_ ?_ | refine Zf ?_ ?_ | refine Zg ?_ ?_ | refine Z5 ?_ ?_) <;> intro _ <;> (try (exfalso; omega))) | assumption | exact trivial | (show _ < _; omega) | (show _ ≤ _; omega) | (show ¬ (_ : Nat) = _; omega) | (show (_ : Nat) ≠ _; omega) | (show (_ : Nat) = _; omega) | (intro _; intros) | (refine ⟨_, by assumption, ?_⟩) | refine And.intro ?_ ?_))
    refine hq _ rfl (fun j hj hn => ?_) (Or.inr ⟨Zr, ?_, by omega, by simp⟩)
    · rw [Zv hn, ZG (by first | omega | (simp only [Z0]; omega))]
    · rw [Zv (by omega)]; exact Xh rfl
theorem vc20s (h47 : T 47 = Xb (X9 82)) (h20 : T 20 = q20) {l id n : Nat} {b : Nat} {u bs : List Nat} (hu : n + (b :: u).length ≤ 140737488355328) (hn : bs.length = n) (hb : hget h.mem l = some (.cells 82 [.ptr l 0, .sl id n (Yq bs)])) (hi : hget h.mem id = some (.tip n 5)) (hd : id ≠ l) (hq : ∀ h', h.next = h'.next → (∀ j, j < h.next → j ≠ l → j ≠ id → hget h'.mem j = hget h.mem j) → BU h' l id (bs ++ b :: u) → Q (.tup [.int .i64 (.ofNat (b :: u).length), .v .nilIface]) h') : VC E T 20 [.ptr l 0, .str (b :: u)] h Q R := by
  have hbd : (Yq bs).length = n := by rw [Zuw, hn]
  refine Zp h20 ?_
  unfold Zs
  repeat' (with_reducible (first | refine Za ?_ | refine Zb ?_ | refine Zk ?_ | refine Zj ?_ | refine Zd ?_ | refine Z3 ?_ | refine Zc ?_ | refine Zl ?_ | refine Z9 ?_ | refine Z4 ?_ | refine Ze ?_ | refine Zu5 h47 (by assumption) ?_ | simp (maxSteps := 2000000) (disch := first | assumption | omega | (simp only [Z1, Z0, List.length_cons, List.length_nil, List.length_append, List.length_take, List.length_drop]; omega) | fail) only [go_sem, -Int.reduceOfNat, *, Zgs, Zjs, Zmk, patch, D.cells, List.drop_succ_cons, List.drop_zero, List.take_succ_cons, List.take_zero] | ((first | refine Zn ?_ ?_ | refine Zh ?_ ?_ | refine Zm ?_ ?_ | refine Zf ?_ ?_ | refine Zg ?_ ?_ | refine Z5 ?_ ?_) <;> intro _ <;> (try (exfalso; omega))) | assumption | exact trivial | (show _ < _; omega) | (show _ ≤ _; omega) | (show ¬ (_ : Nat) = _; omega) | (show (_ : Nat) ≠ _; omega) | (show (_ : Nat) = _; omega) | (intro _; intros) | (refine ⟨_, by assumption, ?_⟩) | refine And.intro ?_ ?_))
  refine hq _ rfl (fun j hj h1 h2 => ?_) (Or.inr ⟨?_, ?_, hd, by simp⟩)
  · rw [Zv h1, Zv h2]
  · rw [Zr, Zux, List.length_append, hn]; rfl
  · rw [Zv hd, Zr, List.length_append, hn]; rfl
theorem vc20n (h47 : T 47 = Xb (X9 82)) (h20 : T 20 = q20) {l id : Nat} {bs : List Nat} (hb : BU h l id bs) (hq : ∀ h', h.next = h'.next → (∀ j, j < h.next → j ≠ l → hget h'.mem j = hget h.mem j) → BU h' l id bs → Q (.tup [.int .i64 (.ofNat 0), .v .nilIface]) h') : VC E T 20 [.ptr l 0, .str []] h Q R := by
  rcases hb with ⟨rfl, hb | hb, hi⟩ | ⟨hb, hi, hd, hne⟩
  · have hA : ∀ hh : H, Zif 5 (.v (.slice none 0 0)) (.str []) hh = .ok (.v (.slice none 0 0)) hh := fun hh => Zml (Or.inl rfl)
    refine Zp h20 ?_
    unfold Zs
    repeat' (with_reducible (first | refine Za ?_ | refine Zb ?_ | refine Zk ?_ | refine Zj ?_ | refine Zd ?_ | refine Z3 ?_ | refine Zc ?_ | refine Zl ?_ | refine Z9 ?_ | refine Z4 ?_ | refine Ze ?_ | refine vc47f h47 (by assumption) ?_ | simp (maxSteps := 2000000) (disch := first | assumption | omega | (simp only [Z1, Z0, List.length_cons, List.length_nil, List.length_append, List.length_take, List.length_drop]; omega) | fail) only [go_sem, -Int.reduceOfNat, *, Zgs, patch, D.cells, List.drop_succ_cons, List.drop_zero, List.take_succ_cons, List.take_zero] | ((first | refine Zn ?_ ?_ | refine Zh ?_ ?_ | refine Zm ?_ ?_ | refine Zf ?_ ?_ | refine Zg ?_ ?_ | refine Z5 ?_ ?_) <;> intro _ <;> (try (exfalso; omega))) | assumption | exact trivial | (show _ < _; omega) | (show _ ≤ _; omega) | (show ¬ (_ : Nat) = _; omega) | (show (_ : Nat) ≠ _; omega) | (show (_ : Nat) = _; omega) | (intro _; intros) | (refine ⟨_, by assumption, ?_⟩) | refine And.intro ?_ ?_))
    refine hq _ rfl (fun j hj hn => ?_) (Or.inl ⟨rfl, Or.inr Zr, hi⟩)
    rw [Zv hn, Zv hn]
  · have hA : ∀ hh : H, Zif 5 (.v (.slice none 0 0)) (.str []) hh = .ok (.v (.slice none 0 0)) hh := fun hh => Zml (Or.inl rfl)
    refine Zp h20 ?_
    unfold Zs
    repeat' (with_reducible (first | refine Za ?_ | refine Zb ?_ | refine Zk ?_ | refine Zj ?_ | refine Zd ?_ | refine Z3 ?_ | refine Zc ?_ | refine Zl ?_ | refine Z9 ?_ | refine Z4 ?_ | refine Ze ?_ | refine Zu5 h47 (by assumption) ?_ | simp (maxSteps := 2000000) (disch := first | assumption | omega | (simp only [Z1, Z0, List.length_cons, List.length_nil, List.length_append, List.length_take, List.length_drop]; omega) | fail) only [go_sem, -Int.reduceOfNat, *, Zgs, patch, D.cells, List.drop_succ_cons, List.drop_zero, List.take_succ_cons, List.take_zero] | ((first | refine Zn ?_ ?_ | refine Zh ?_ ?_ | refine Zm ?_ ?_ | refine Zf ?_ ?_ | refine Zg ?_ ?_ | refine Z5 ?_ ?_) <;> intro _ <;> (try (exfalso; omega))) | assumption | exact trivial | (show _ < _; omega) | (show _ ≤ _; omega) | (show ¬ (_ : Nat) = _; omega) | (show (_ : Nat) ≠ _; omega) | (show (_ : Nat) = _; omega) | (intro _; intros) | (refine ⟨_, by assumption, ?_⟩) | refine And.intro ?_ ?_))
    refine hq _ rfl (fun j hj hn => ?_) (Or.inl ⟨rfl, Or.inr Zr, hi⟩)
    rw [Zv hn]
  · have hA : ∀ hh : H, Zif 5 (.sl id bs.length (Yq bs)) (.str []) hh = .ok (.sl id bs.length (Yq bs)) hh := fun hh => Zml (Or.inr ⟨_, _, _, rfl⟩)
    refine Zp h20 ?_
    unfold Zs
    repeat' (with_reducible (first | refine Za ?_ | refine Zb ?_ | refine Zk ?_ | refine Zj ?_ | refine Zd ?_ | refine Z3 ?_ | refine Zc ?_ | refine Zl ?_ | refine Z9 ?_ | refine Z4 ?_ | refine Ze ?_ | refine Zu5 h47 (by assumption) ?_ | simp (maxSteps := 2000000) (disch := first | assumption | omega | (simp only [Z1, Z0, List.length_cons, List.length_nil, List.length_append, List.length_take, List.length_drop]; omega) | fail) only [go_sem, -Int.reduceOfNat, *, Zgs, patch, D.cells, List.drop_succ_cons, List.drop_zero, List.take_succ_cons, List.take_zero] | ((first | refine Zn ?_ ?_ | refine Zh ?_ ?_ | refine Zm ?_ ?_ | refine Zf ?_ ?_ | refine Zg ?_ ?_ | refine Z5 ?_ ?_) <;> intro _ <;> (try (exfalso; omega))) | assumption | exact trivial | (show _ < _; omega) | (show _ ≤ _; omega) | (show ¬ (_ : Nat) = _; omega) | (show (_ : Nat) ≠ _; omega) | (show (_ : Nat) = _; omega) | (intro _; intros) | (refine ⟨_, by assumption, ?_⟩) | refine And.intro ?_ ?_))
    refine hq _ rfl (fun j hj hn => ?_) (Or.inr ⟨Zr, ?_, hd, hne⟩)
    · rw [Zv hn]
    · rw [Zv hd]; exact hi
theorem vc20 (h47 : T 47 = Xb (X9 82)) (h20 : T 20 = q20) {l id : Nat} {s bs : List Nat} (hu : bs.length + s.length ≤ 140737488355328) (hl : l < h.next) (hid : id < h.next) (hb : BU h l id bs) (hq : ∀ h' id', h.next ≤ h'.next → (id' = id ∨ h.next ≤ id') → id' < h'.next → (∀ j, j < h.next → j ≠ l → j ≠ id → hget h'.mem j = hget h.mem j) → BU h' l id' (bs ++ s) → Q (.tup [.int .i64 (.ofNat s.length), .v .nilIface]) h') : VC E T 20 [.ptr l 0, .str s] h Q R := by
  match s with
  | [] =>
    refine vc20n h47 h20 hb fun h' g1 g2 g3 => hq h' id (by omega) (Or.inl rfl) (by omega) (fun j a b _ => g2 j a b) ?_
    rw [List.append_nil]; exact g3
  | b :: u =>
    rcases hb with ⟨rfl, hb, hi⟩ | ⟨hb, hi, hd, hne⟩
    · exact vc20e h47 h20 (by simpa using hu) hl hb fun h' g1 g2 g3 => hq h' h.next (by omega) (Or.inr (Nat.le_refl _)) (by omega) (fun j a b _ => g2 j a b) g3
    · exact vc20s h47 h20 hu rfl hb hi hd fun h' g1 g2 g3 => hq h' id (by omega) (Or.inl rfl) (by omega) g2 g3
theorem BU.up {h h' : H} {l id : Nat} {bs : List Nat} (hb : BU h l id bs) (h1 : hget h'.mem l = hget h.mem l) (h2 : hget h'.mem id = hget h.mem id) : BU h' l id bs := by
  unfold BU
  rw [h1, h2]
  exact hb
theorem Zo5 : ∀ {l : List Nat}, (∀ b ∈ l, b < 256) → W2 (Yq l) = some l
  | [], _ => bo0
  | b :: r, h => ZR (h b (List.mem_cons_self ..)) (Zo5 fun x hx => h x (List.mem_cons_of_mem _ hx))
theorem vc24 (h24 : T 24 = Xb (WG 5)) {l id : Nat} {bs : List Nat} (hb : BU h l id bs) (h8 : ∀ b ∈ bs, b < 256) (hq : ∀ h', h.next = h'.next → (∀ j, j ≠ id → hget h'.mem j = hget h.mem j) → Q (.str bs) h') : VC E T 24 [.ptr l 0] h Q R := Zcj h24 (by
  unfold WG Zi
  rcases hb with ⟨rfl, hb | hb, hi⟩ | ⟨hb, hi, hd, hne⟩
  · rw [Yg] at hb
    simp only [hb]
    exact hq _ rfl fun j _ => rfl
  · rw [Yg] at hb
    simp only [hb]
    exact hq _ rfl fun j _ => rfl
  · have hz : Nat.beq bs.length 0 = false := by
      cases bs with
      | nil => exact absurd rfl hne
      | cons a r => rfl
    rw [Yg] at hb hi
    unfold Za4 Zi
    have e : ∀ y : D, (bif Nat.beq (List.take 1 (List.drop 1 [D.ptr l 0, y])).length 1 then some (List.take 1 (List.drop 1 [D.ptr l 0, y])) else none) = some [y] := fun _ => rfl
    simp only [hb, e, hi, Zo5 h8, Nat.beq_refl, hz]
    refine hq _ rfl fun j hj => ?_
    simp only [Yg, Tr.get_set, if_neg hj])
end
section
variable {h : H} {Q : D → H → Prop} {R : Y1}
def q8 : Yd := Uz Zs (fun t h => .ok (Gt 2 t) h)
 (Z2 (Z7<|fo (ZC (kS [])) (St 2)<|Z8)
 (Z2 (Z7<|mM 0 7<|mM 0 8<|fo (u1 YI (Gt 8)) (St 9)<|fo (fbi .min #[3,3] 3 #[false,true] [(Gt 9),(kI 65535)]) (St 10)<|fo (uo (Zf4 2) (Gt 7) none (some (Gt 10))) (St 11)<|mM 11 0<|Z8)
 (Z2 (Z7<|fo (ZN 82 [(.v (.pointer none)),(.v (.slice none 0 0))]) (St 3)<|fo (ZN 82 [(.v (.pointer none)),(.v (.slice none 0 0))]) (St 4)<|Z8)
 (Z2 (Z2 (Z7<|mM 0 12<|fo (u1 YI (Gt 12)) (St 13)<|fo (ZC (kI 0)) (St 14)<|Z8)
 (ZM 0 (Xi (Z2 (Z7<|fo (Zq WH .lss 3 (.tmp 14) (.tmp 13) (Gt 14) (Gt 13)) (St 15)<|Z8)
 (Z2 (Zt (Gt 15) ZJ (WS 0))
 (Z2 (ZM 1 (Z2 (Z7<|fo (u2 (Ym 2) (Gt 12) (Gt 14)) (St 16)<|fo (Yy 2 (Gt 16)) (St 17)<|fo (ZN 45 [(.int .u32 (.ofNat 0)),(.str [])]) (St 6)<|fo (ZV 2 (Gt 6) (Gt 17)) p0<|Z8)
 (Z2 (YY<|Xj 0 [] 2 (Gt 6) (Yy 2 (Gt 6)) (St 18)<|Zim 1 [0] (ZW 22 [(Gt 3)]) (St 19)<|Zu (Zq YJ .add 3 (.const (.int .i64 (.ofNat 64))) (.tmp 19) (kI 64) (Gt 19)) (St 20)<|Zim 3 [] (ZW 21 [(Gt 18),(Gt 20)]) (St 21)<|Zim 4 [] (ZW 20 [(Gt 4),(Gt 21)]) (St 22)<|YZ)
 (Z7<|mF 1 6 23<|mL 23 24<|mK 20 [(Gt 3),(Gt 24)] 25<|Z8))))
 (Z7<|fo (Zq YJ .add 3 (.tmp 14) (.const (.int .i64 (.ofNat 1))) (Gt 14) (kI 1)) (St 26)<|mM 26 14<|Z8)))))))
 (Z2 (Z7<|mK 22 [(Gt 3)] 27<|fo (Zq YJ .add 3 (.const (.int .i64 (.ofNat 64))) (.tmp 27) (kI 64) (Gt 27)) (St 28)<|mM 0 29<|fo (u1 YI (Gt 29)) (St 30)<|mK 23 [(Gt 28),(Gt 30)] 31<|mK 24 [(Gt 3)] 32<|fo (Zq YJ .add 9 (.tmp 31) (.tmp 32) (Gt 31) (Gt 32)) (St 33)<|mK 24 [(Gt 4)] 34<|fo (Zq YJ .add 9 (.tmp 33) (.tmp 34) (Gt 33) (Gt 34)) (St 35)<|mM 35 2<|Z8)
 ZF)))))
def YF : List (Nat × List Nat) → List Nat
  | [] => []
  | (_, d) :: r => d ++ YF r
def Zdh (n : Nat) : List (Nat × List Nat) → List Nat
  | [] => []
  | (k, d) :: r => Zfh k d.length (64 + n) ++ Zdh (n + d.length) r
def UB (sx : List (Nat × List Nat)) : List Nat := Zbp (64 + (YF sx).length) sx.length ++ YF sx ++ Zdh 0 sx
def VQ : List (Nat × List Nat) → List D
  | [] => []
  | (k, d) :: r => .int .u32 (.ofNat k) :: .str d :: VQ r
theorem Zgt : ∀ (sx : List (Nat × List Nat)) (i : Nat), (VQ sx).drop (i * 2) = VQ (sx.drop i)
  | [], i => by simp [VQ]
  | (k, d) :: r, 0 => rfl
  | (k, d) :: r, i + 1 => by rw [Nat.add_mul, Nat.one_mul]; exact Zgt r i
theorem Zip {k n i : Nat} : (Zfh k n i).length = 64 := by simp only [Zfh, List.length_append, Zld]
theorem Za9 {a n : Nat} : (Zbp a n).length = 64 := by simp only [Zbp, List.length_append, Zld, List.length_cons, List.length_nil]
theorem BU.nil {h : H} {l : Nat} (hm : hget h.mem l = some (.cells 82 [.v (.pointer none), .v (.slice none 0 0)])) : BU h l l [] := Or.inl ⟨rfl, Or.inl hm, rfl⟩
structure SOk (sx : List (Nat × List Nat)) : Prop where
  n : sx.length ≤ 20
  k : ∀ s ∈ sx, s.1 < 4294967296
  d : ∀ s ∈ sx, s.2.length ≤ 300
  b : ∀ s ∈ sx, ∀ b ∈ s.2, b < 256
def isS (x : D) (sx : List (Nat × List Nat)) : Prop := (sx = [] ∧ x = .v (.slice none 0 0)) ∨ (sx ≠ [] ∧ ∃ id, x = .sl id sx.length (VQ sx))
abbrev IB (h0 : H) (x : D) (sx : List (Nat × List Nat)) (m : Nat) (t1 : Tr D) (h1 : H) : Prop :=
  h0.next + 2 ≤ h1.next ∧ (∀ l, l < h0.next → hget h1.mem l = hget h0.mem l) ∧ Gt 12 t1 = x ∧ Gt 13 t1 = .int .i64 (.ofNat sx.length) ∧ Gt 3 t1 = .ptr h0.next 0 ∧ Gt 4 t1 = .ptr (h0.next + 1) 0 ∧ Gt 0 t1 = x ∧
  ∃ i i1 i2 D1 D2, Gt 14 t1 = .int .i64 (.ofNat i) ∧ i + m = sx.length ∧ BU h1 h0.next i1 D1 ∧ BU h1 (h0.next + 1) i2 D2 ∧ h0.next ≤ i1 ∧ h0.next ≤ i2 ∧ i1 < h1.next ∧ i2 < h1.next ∧ i1 ≠ i2 ∧ i1 ≠ h0.next + 1 ∧ i2 ≠ h0.next ∧ D1 ++ YF (sx.drop i) = YF sx ∧ D2 ++ Zdh D1.length (sx.drop i) = Zdh 0 sx ∧ D1.length ≤ 300 * i ∧ D2.length = 64 * i
theorem Zsc {k n : Nat} : ∀ b ∈ Zc2 k n, b < 256 := by
  intro b hb
  obtain ⟨i, _, rfl⟩ := List.mem_map.mp hb
  exact Nat.mod_lt _ (by decide)
theorem entB_b {k n i : Nat} : ∀ b ∈ Zfh k n i, b < 256 := by
  intro b hb
  simp only [Zfh, List.mem_append] at hb
  rcases hb with (((((((hb | hb) | hb) | hb) | (hb | hb)) | hb) | hb) | hb) | hb <;> exact Zsc b hb
theorem Zqf : ∀ {sx : List (Nat × List Nat)}, (∀ s ∈ sx, ∀ b ∈ s.2, b < 256) → ∀ b ∈ YF sx, b < 256
  | [], _, b, hb => absurd hb (by simp [YF])
  | (k, d) :: r, h, b, hb => by
    rw [YF, List.mem_append] at hb
    exact hb.elim (fun hb => h _ (List.mem_cons_self ..) b hb) fun hb => Zqf (fun s hs => h s (List.mem_cons_of_mem _ hs)) b hb
theorem Zto : ∀ {sx : List (Nat × List Nat)} {n : Nat}, ∀ b ∈ Zdh n sx, b < 256
  | [], n, b, hb => absurd hb (by simp [Zdh])
  | (k, d) :: r, n, b, hb => by
    rw [Zdh, List.mem_append] at hb
    exact hb.elim (fun hb => entB_b b hb) fun hb => Zto b hb
theorem vc8s (h159 : T 159 = Zhn) (h111 : T 111 = Zia) (h78 : T 78 = Zw7) (h112 : T 112 = Zmd) (h79 : T 79 = Z1w) (h80 : T 80 = Zx8) (h49 : T 49 = Z2z) (h48 : T 48 = q48) (h50 : T 50 = Xb VE) (h21 : T 21 = q21) (h23 : T 23 = q23) (h47 : T 47 = Xb (X9 82)) (h20 : T 20 = q20) (h22 : T 22 = q22) (h24 : T 24 = Xb (WG 5)) (h8 : T 8 = q8) {sx : List (Nat × List Nat)} {id : Nat} (hx : SOk sx) (hq : ∀ h', h.next ≤ h'.next → (∀ l, l < h.next → hget h'.mem l = hget h.mem l) → Q (.str (UB sx)) h') : VC E T 8 [.sl id sx.length (VQ sx)] h Q R := by
  have hxn := hx.n
  have hsl : ∀ hh : H, oSl 2 (.sl id sx.length (VQ sx)) (.int .i64 (.ofNat sx.length)) hh = .ok (.sl id sx.length (VQ sx)) hh := fun hh => by rw [Zt0 (Nat.le_refl _), Zjw, Nat.beq_refl]; rfl
  have hmn : min sx.length 65535 = sx.length := by omega
  refine Zp h8 ?_
  unfold Zs
  repeat' (with_reducible (first | refine Za ?_ | refine Zb ?_ | refine Zk ?_ | refine Zj ?_ | refine Zd ?_ | refine Z3 ?_ | refine Zc ?_ | refine Zl ?_ | refine Z9 ?_ | refine Z4 ?_ | refine Ze ?_ | refine WW (IB h (.sl id sx.length (VQ sx)) sx) (n := sx.length) ?_ ?_ | simp (maxSteps := 2000000) (disch := first | assumption | omega | (simp only [Z1, Z0, List.length_cons, List.length_nil, List.length_append, List.length_take, List.length_drop]; omega) | fail) only [go_sem, -Int.reduceOfNat, *, Zcb] | ((first | refine Zn ?_ ?_ | refine Zh ?_ ?_ | refine Zm ?_ ?_ | refine Zf ?_ ?_ | refine Zg ?_ ?_ | refine Z5 ?_ ?_) <;> intro _ <;> (try (exfalso; omega))) | assumption | exact trivial | (show _ < _; omega) | (show _ ≤ _; omega) | (show ¬ (_ : Nat) = _; omega) | (show (_ : Nat) ≠ _; omega) | (show (_ : Nat) = _; omega) | (intro _; intros) | (refine ⟨_, by assumption, ?_⟩) | refine And.intro ?_ ?_))
  · refine ⟨h.next, h.next + 1, [], Or.inl ⟨rfl, Or.inl ?_, rfl⟩, [], Or.inl ⟨rfl, Or.inl ?_, rfl⟩, ?_⟩
    · rw [ZG (by simp only [Z1]; omega)]; exact Xh rfl
    · exact Xh rfl
    · repeat' apply And.intro
      all_goals first | omega | rfl | (simp; done)
  · rintro m t1 h1 ⟨gn, gf, g12, g13, gA, gB, g0, i, i1, i2, D1, D2, g14, gi, hB1, hB2, k1, k2, k3, k4, k5, k6, k7, e1, e2, e3, e4⟩
    by_cases hlt : i < sx.length
    · obtain ⟨kd, dat, hdr⟩ : ∃ kd dat, sx.drop i = (kd, dat) :: sx.drop (i + 1) := ⟨sx[i].1, sx[i].2, by rw [List.drop_eq_getElem_cons hlt]⟩
      have hmem : (kd, dat) ∈ sx := List.mem_of_mem_drop (i := i) (by rw [hdr]; exact List.mem_cons_self ..)
      have hk := hx.k _ hmem
      have hd := hx.d _ hmem
      simp only at hk hd
      have hix : ∀ hh : H, Zbw 2 (.sl id sx.length (VQ sx)) (.int .i64 (.ofNat i)) hh = .ok (.ep (.int .u32 (.ofNat kd) :: .str dat :: VQ (sx.drop (i + 1)))) hh := fun hh => VY hlt (by rw [Zgt, hdr]; rfl)
      rw [hdr] at e1 e2
      rw [YF] at e1
      rw [Zdh] at e2
      clear hmn hsl hdr
      repeat' (with_reducible (first | refine Za ?_ | refine Zb ?_ | refine Zk ?_ | refine Zj ?_ | refine Zd ?_ | refine Z3 ?_ | refine Zc ?_ | refine Zl ?_ | refine Z9 ?_ | refine Z4 ?_ | refine Ze ?_ | refine (vc22 h22 (BU.up hB1 ?_ ?_) ?_) | refine vc21 h159 h111 h78 h112 h79 h80 h49 h48 h21 ?_ ?_ ?_ ?_ | refine (vc20 h47 h20 ?_ ?_ ?_ (BU.up hB2 ?_ ?_) ?_) | refine (vc20 h47 h20 ?_ ?_ ?_ (BU.up hB1 ?_ ?_) ?_) | simp (maxSteps := 2000000) (disch := first | assumption | omega | (simp only [Z1, Z0, List.length_cons, List.length_nil, List.length_append, List.length_take, List.length_drop]; omega) | fail) only [go_sem, -Int.reduceOfNat, *, Zcb] | ((first | refine Zn ?_ ?_ | refine Zh ?_ ?_ | refine Zm ?_ ?_ | refine Zf ?_ ?_ | refine Zg ?_ ?_ | refine Z5 ?_ ?_) <;> intro _ <;> (try (exfalso; omega))) | (intro h3 j3 f1 f2 f3 f4 f5) | (intro h2 f1 f2) | (show ∃ k, k < m ∧ IB h _ sx k _ _; refine ⟨m - 1, by omega, ?_⟩) | (show _ ≤ _; simp only [Zip]; omega) | assumption | exact trivial | (show _ < _; omega) | (show _ ≤ _; omega) | (show ¬ (_ : Nat) = _; omega) | (show (_ : Nat) ≠ _; omega) | (show (_ : Nat) = _; omega) | (intro _; intros) | (refine ⟨_, by assumption, ?_⟩) | refine And.intro ?_ ?_))
      all_goals
        rename_i a1 a2 h4 j4 b1 b2 b3 b4 b5
        refine ⟨j3, j4, _, f5, _, BU.up b5 (f4 _ (by omega) (by omega) (by omega)) (f4 _ b3 (by omega) (by omega)), by omega, by omega, by omega, by omega, by omega, by omega, by omega, ?_, ?_, ?_, ?_⟩
        · rw [List.append_assoc]; exact e1
        · rw [List.length_append, List.append_assoc]; exact e2
        · rw [List.length_append]; omega
        · rw [List.length_append, Zip]; omega
    · obtain rfl : i = sx.length := by omega
      rw [List.drop_length] at e1 e2
      simp only [YF, Zdh, List.append_nil] at e1 e2
      subst e1 e2
      have hb1 : ∀ b ∈ YF sx, b < 256 := Zqf hx.b
      have hb2 : ∀ b ∈ Zdh 0 sx, b < 256 := Zto
      have hl1 : (Zbp (64 + (YF sx).length) sx.length).length + (YF sx).length ≤ 140737488355328 := by rw [Za9]; omega
      have hl2 : (Zbp (64 + (YF sx).length) sx.length ++ YF sx).length + (Zdh 0 sx).length ≤ 140737488355328 := by rw [List.length_append, Za9]; omega
      simp only [UB, List.append_assoc] at hq
      clear hmn hsl
      repeat' (with_reducible (first | refine Za ?_ | refine Zb ?_ | refine Zk ?_ | refine Zj ?_ | refine Zd ?_ | refine Z3 ?_ | refine Zc ?_ | refine Zl ?_ | refine Z9 ?_ | refine Z4 ?_ | refine Ze ?_ | refine (vc22 h22 (BU.up hB1 ?_ ?_) ?_) | refine (vc23 h159 h111 h78 h112 h79 h80 h49 h48 h50 h23 ?_ ?_ ?_) | refine (vc24 h24 (BU.up hB1 ?_ ?_) hb1 ?_) | refine (vc24 h24 (BU.up hB2 ?_ ?_) hb2 ?_) | simp (maxSteps := 2000000) (disch := first | assumption | omega | (simp only [Z1, Z0, List.length_cons, List.length_nil, List.length_append, List.length_take, List.length_drop]; omega) | fail) only [go_sem, -Int.reduceOfNat, *, X4] | ((first | refine Zn ?_ ?_ | refine Zh ?_ ?_ | refine Zm ?_ ?_ | refine Zf ?_ ?_ | refine Zg ?_ ?_ | refine Z5 ?_ ?_) <;> intro _ <;> (try (exfalso; omega))) | (intro h2 f1 f2) | (show Q _ _; refine hq _ ?_ ?_) | assumption | exact trivial | (show _ < _; omega) | (show _ ≤ _; omega) | (show ¬ (_ : Nat) = _; omega) | (show (_ : Nat) ≠ _; omega) | (show (_ : Nat) = _; omega) | (intro _; intros) | (refine ⟨_, by assumption, ?_⟩) | refine And.intro ?_ ?_))
theorem vc8n (h159 : T 159 = Zhn) (h111 : T 111 = Zia) (h78 : T 78 = Zw7) (h112 : T 112 = Zmd) (h79 : T 79 = Z1w) (h80 : T 80 = Zx8) (h49 : T 49 = Z2z) (h48 : T 48 = q48) (h50 : T 50 = Xb VE) (h21 : T 21 = q21) (h23 : T 23 = q23) (h47 : T 47 = Xb (X9 82)) (h20 : T 20 = q20) (h22 : T 22 = q22) (h24 : T 24 = Xb (WG 5)) (h8 : T 8 = q8) (hq : ∀ h', h.next ≤ h'.next → (∀ l, l < h.next → hget h'.mem l = hget h.mem l) → Q (.str (UB [])) h') : VC E T 8 [.v (.slice none 0 0)] h Q R := by
  have hm0 : min 0 65535 = 0 := rfl
  have hl1 : (Zbp 64 0).length + ([] : List Nat).length ≤ 140737488355328 := by rw [Za9]; decide
  simp only [UB, YF, Zdh, List.append_nil, List.length_nil, Nat.add_zero] at hq
  refine Zp h8 ?_
  unfold Zs
  repeat' (with_reducible (first | refine Za ?_ | refine Zb ?_ | refine Zk ?_ | refine Zj ?_ | refine Zd ?_ | refine Z3 ?_ | refine Zc ?_ | refine Zl ?_ | refine Z9 ?_ | refine Z4 ?_ | refine Ze ?_ | refine WV ?_ | refine (vc22 h22 (BU.nil ?_) ?_) | refine (vc23 h159 h111 h78 h112 h79 h80 h49 h48 h50 h23 ?_ ?_ ?_) | refine (vc24 h24 (BU.nil ?_) (fun b hb => absurd hb List.not_mem_nil) ?_) | simp (maxSteps := 2000000) (disch := first | assumption | omega | (simp only [Z1, Z0, List.length_cons, List.length_nil, List.length_append, List.length_take, List.length_drop]; omega) | fail) only [go_sem, -Int.reduceOfNat, *, X4, Zcb, W1, List.append_nil, Nat.add_zero, Za9, List.length_nil, Nat.reduceAdd, Nat.reduceLeDiff] | ((first | refine Zn ?_ ?_ | refine Zh ?_ ?_ | refine Zm ?_ ?_ | refine Zf ?_ ?_ | refine Zg ?_ ?_ | refine Z5 ?_ ?_) <;> intro _ <;> (try (exfalso; omega))) | (intro h2 f1 f2) | (show Q _ _; refine hq _ ?_ ?_) | assumption | exact trivial | (show _ < _; omega) | (show _ ≤ _; omega) | (show ¬ (_ : Nat) = _; omega) | (show (_ : Nat) ≠ _; omega) | (show (_ : Nat) = _; omega) | (intro _; intros) | (refine ⟨_, by assumption, ?_⟩) | refine And.intro ?_ ?_))
end
section
variable {h : H} {Q : D → H → Prop} {R : Y1}
def q7 : Yd := Uz Zs (fun t h => .ok (.tup [(Gt 2) t, (Gt 3) t]) h)
 (Z2 (Z7<|fo (ZC (kD (.v (.slice none 0 0)))) (St 2)<|fo (ZC (kD (.v (.slice none 0 0)))) (St 3)<|Z8)
 (Z2 (Z7<|fo (ZC (kD (.v (.slice none 0 0)))) (St 4)<|Z8)
 (Z2 (Z7<|fo (ZC (kD (.v (.slice none 0 0)))) (St 5)<|Z8)
 (Z2 (Z2 (Z7<|mM 0 8<|mM 0 9<|fo (u1 YI (Gt 9)) (St 10)<|fo (fbi .min #[3,3] 3 #[false,true] [(Gt 10),(kI 20)]) (St 11)<|fo (uo (Zf4 2) (Gt 8) none (some (Gt 11))) (St 12)<|fo (u1 YI (Gt 12)) (St 13)<|fo (ZC (kI 0)) (St 14)<|Z8)
 (ZM 0 (Xi (Z2 (Z7<|fo (Zq WH .lss 3 (.tmp 14) (.tmp 13) (Gt 14) (Gt 13)) (St 15)<|Z8)
 (Z2 (Zt (Gt 15) ZJ (WS 0))
 (Z2 (ZM 1 (Z2 (Z7<|fo (u2 (Ym 2) (Gt 12) (Gt 14)) (St 16)<|fo (Yy 2 (Gt 16)) (St 17)<|fo (ZN 78 [(.int .u32 (.ofNat 0)),(.str [])]) (St 7)<|fo (ZV 2 (Gt 7) (Gt 17)) p0<|Z8)
 (Z2 (Z7<|mF 1 7 18<|mL 18 19<|mF 1 7 20<|mL 20 21<|fo (u1 WD (Gt 21)) (St 22)<|fo (fbi .min #[3,3] 3 #[false,true] [(Gt 22),(kI 300)]) (St 23)<|fo (Zbx (Gt 19) none (some (Gt 23))) (St 24)<|mF 1 7 25<|mS 25 (Gt 24)<|Z8)
 (YY<|Zu (ZC (Gt 4)) (St 26)<|Xj 1 [0] 2 (Gt 7) (Yy 2 (Gt 7)) (St 27)<|Zu (XK 45 1 [(.int .u32 (.ofNat 0)),(.str [])] [(0,2,(Gt 27))]) (St 28)<|Zfw 3 [] (u2 (Zbl 45 2 24) (Gt 26) (Gt 28)) (St 29)<|Zu (ZC (Gt 5)) (St 30)<|Xj 5 [0,1,2,3,4] 2 (Gt 7) (Yy 2 (Gt 7)) (St 31)<|Zu (XK 79 1 [(.int .u32 (.ofNat 0)),(.str [])] [(0,2,(Gt 31))]) (St 32)<|Zfw 7 [] (u2 (Zbl 79 2 24) (Gt 30) (Gt 32)) (St 33)<|Zu (ZC (Gt 29)) (St 4)<|Zu (ZC (Gt 33)) (St 5)<|YZ))))
 (Z7<|fo (Zq YJ .add 3 (.tmp 14) (.const (.int .i64 (.ofNat 1))) (Gt 14) (kI 1)) (St 34)<|mM 34 14<|Z8)))))))
 (Z2 (Z7<|mM 4 35<|mM 5 36<|mM 35 2<|mM 36 3<|Z8)
 ZF)))))
def WU (l : List (Nat × List Nat)) : List (Nat × List Nat) := (l.take 20).map fun s => (s.1, s.2.take 300)
theorem Zlr : ∀ a b : List (Nat × List Nat), VQ (a ++ b) = VQ a ++ VQ b
  | [], b => rfl
  | (k, d) :: r, b => by rw [List.cons_append, VQ, VQ, Zlr r b]; rfl
theorem Zrb : ∀ a : List (Nat × List Nat), (VQ a).length = a.length * 2
  | [] => rfl
  | (k, d) :: r => by rw [VQ, List.length_cons, List.length_cons, Zrb r, List.length_cons]; omega
theorem Zq9 (l : List (Nat × List Nat)) : (WU l).length = min l.length 20 := by rw [WU, List.length_map, List.length_take, Nat.min_comm]
abbrev IS (h0 : H) (l : List (Nat × List Nat)) (x : D) (m : Nat) (t1 : Tr D) (h1 : H) : Prop :=
  h0.next ≤ h1.next ∧ (∀ l, l < h0.next → hget h1.mem l = hget h0.mem l) ∧ Gt 12 t1 = x ∧ Gt 13 t1 = .int .i64 (.ofNat (min l.length 20)) ∧
  ∃ i, Gt 14 t1 = .int .i64 (.ofNat i) ∧ i + m = min l.length 20 ∧
  ((i = 0 ∧ Gt 4 t1 = .v (.slice none 0 0) ∧ Gt 5 t1 = .v (.slice none 0 0)) ∨ (i ≠ 0 ∧ ∃ ia ib, Gt 4 t1 = .sl ia i (VQ ((WU l).take i)) ∧ Gt 5 t1 = .sl ib i (VQ ((WU l).take i)) ∧ hget h1.mem ia = some (.tip i 45) ∧ hget h1.mem ib = some (.tip i 79) ∧ ia ≠ ib ∧ h0.next ≤ ia ∧ h0.next ≤ ib ∧ ia < h1.next ∧ ib < h1.next))
theorem vc7s (h7 : T 7 = q7) {l : List (Nat × List Nat)} {id : Nat} (hq : ∀ h' x y, h.next ≤ h'.next → (∀ l, l < h.next → hget h'.mem l = hget h.mem l) → isS x (WU l) → Q (.tup [x, y]) h') : VC E T 7 [.sl id l.length (VQ l)] h Q R := by
  have hm0 : min l.length 20 ≤ l.length := by omega
  obtain ⟨id', cs', hH, hc⟩ := Zxq (size := 2) (id := id) (cs := VQ l) hm0
  have hsl : ∀ hh : H, oSl 2 (.sl id l.length (VQ l)) (.int .i64 (.ofNat (min l.length 20))) hh = .ok (.sl id' (min l.length 20) cs') hh := fun hh => by rw [Zt0 hm0, hH]
  have hls := Zq9 l
  refine Zp h7 ?_
  unfold Zs
  repeat' (with_reducible (first | refine Za ?_ | refine Zb ?_ | refine Zk ?_ | refine Zj ?_ | refine Zd ?_ | refine Z3 ?_ | refine Zc ?_ | refine Zl ?_ | refine Z9 ?_ | refine Z4 ?_ | refine Ze ?_ | refine WW (IS h l (.sl id' (min l.length 20) cs')) (n := min l.length 20) ?_ ?_ | simp (maxSteps := 2000000) (disch := first | assumption | omega | (simp only [Z1, Z0, List.length_cons, List.length_nil, List.length_append, List.length_take, List.length_drop]; omega) | fail) only [go_sem, -Int.reduceOfNat, *, Zcb] | ((first | refine Zn ?_ ?_ | refine Zh ?_ ?_ | refine Zm ?_ ?_ | refine Zf ?_ ?_ | refine Zg ?_ ?_ | refine Z5 ?_ ?_) <;> intro _ <;> (try (exfalso; omega))) | assumption | exact trivial | (show _ < _; omega) | (show _ ≤ _; omega) | (show ¬ (_ : Nat) = _; omega) | (show (_ : Nat) ≠ _; omega) | (show (_ : Nat) = _; omega) | (intro _; intros) | (refine ⟨_, by assumption, ?_⟩) | refine And.intro ?_ ?_))
  · rintro m t1 h1 ⟨gn, gf, g12, g13, i, g14, gi, hS⟩
    by_cases hlt : i < min l.length 20
    · have hll : i < l.length := by omega
      obtain ⟨kd, dat, hdr, hge⟩ : ∃ kd dat, l.drop i = (kd, dat) :: l.drop (i + 1) ∧ l[i]? = some (kd, dat) := ⟨l[i].1, l[i].2, by rw [List.drop_eq_getElem_cons hll], by rw [List.getElem?_eq_getElem hll]⟩
      obtain ⟨rest, hrest⟩ := hc i [.int .u32 (.ofNat kd), .str dat] (VQ (l.drop (i + 1))) (by rw [Zgt, hdr]; rfl) rfl hlt
      have hix : ∀ hh : H, Zbw 2 (.sl id' (min l.length 20) cs') (.int .i64 (.ofNat i)) hh = .ok (.ep (.int .u32 (.ofNat kd) :: .str dat :: rest)) hh := fun hh => VY hlt hrest
      have htk : (WU l).take (i + 1) = (WU l).take i ++ [(kd, dat.take 300)] := by
        rw [List.take_add_one, WU, List.getElem?_map, List.getElem?_take_of_lt (by omega), hge]; rfl
      have hmd : dat.take (min dat.length 300) = dat.take 300 := by
        rcases Nat.le_total dat.length 300 with h3 | h3
        · rw [Nat.min_eq_left h3, List.take_of_length_le (Nat.le_refl _), List.take_of_length_le h3]
        · rw [Nat.min_eq_right h3]
      have hml : min dat.length 300 ≤ dat.length := by omega
      have htl : ((WU l).take i).length = i := by rw [List.length_take, hls]; omega
      have htc : (VQ ((WU l).take i)).length = i * 2 := by rw [Zrb, htl]
      clear hH hc hrest hdr hge hsl hls
      rcases hS with ⟨rfl, gA, gB⟩ | ⟨hne, ia, ib, gA, gB, t1a, t1b, d1, d2, d3, d4, d5⟩
      · repeat' (with_reducible (first | refine Za ?_ | refine Zb ?_ | refine Zk ?_ | refine Zj ?_ | refine Zd ?_ | refine Z3 ?_ | refine Zc ?_ | refine Zl ?_ | refine Z9 ?_ | refine Z4 ?_ | refine Ze ?_ | simp (maxSteps := 2000000) (disch := first | assumption | omega | (simp only [Z1, Z0, List.length_cons, List.length_nil, List.length_append, List.length_take, List.length_drop]; omega) | fail) only [go_sem, -Int.reduceOfNat, *, Zcb, X8, Option.map_none, Option.map_some, Zt2, hmd, Zgb, Zk8, Zid] | ((first | refine Zn ?_ ?_ | refine Zh ?_ ?_ | refine Zm ?_ ?_ | refine Zf ?_ ?_ | refine Zg ?_ ?_ | refine Z5 ?_ ?_) <;> intro _ <;> (try (exfalso; omega))) | (show ∃ k, k < m ∧ IS h l _ k _ _; refine ⟨m - 1, by omega, ?_⟩) | assumption | exact trivial | (show _ < _; omega) | (show _ ≤ _; omega) | (show ¬ (_ : Nat) = _; omega) | (show (_ : Nat) ≠ _; omega) | (show (_ : Nat) = _; omega) | (intro _; intros) | (refine ⟨_, by assumption, ?_⟩) | refine And.intro ?_ ?_))
        refine Or.inr ⟨by omega, _, rfl, _, rfl, ?_⟩
        exact Zvz
      · repeat' (with_reducible (first | refine Za ?_ | refine Zb ?_ | refine Zk ?_ | refine Zj ?_ | refine Zd ?_ | refine Z3 ?_ | refine Zc ?_ | refine Zl ?_ | refine Z9 ?_ | refine Z4 ?_ | refine Ze ?_ | simp (maxSteps := 2000000) (disch := first | assumption | omega | (simp only [Z1, Z0, List.length_cons, List.length_nil, List.length_append, List.length_take, List.length_drop]; omega) | fail) only [go_sem, -Int.reduceOfNat, *, Zcb, X8, Option.map_none, Option.map_some, Zt2, hmd, Zgb, Zk8, Zid] | ((first | refine Zn ?_ ?_ | refine Zh ?_ ?_ | refine Zm ?_ ?_ | refine Zf ?_ ?_ | refine Zg ?_ ?_ | refine Z5 ?_ ?_) <;> intro _ <;> (try (exfalso; omega))) | (show ∃ k, k < m ∧ IS h l _ k _ _; refine ⟨m - 1, by omega, ?_⟩) | assumption | exact trivial | (show _ < _; omega) | (show _ ≤ _; omega) | (show ¬ (_ : Nat) = _; omega) | (show (_ : Nat) ≠ _; omega) | (show (_ : Nat) = _; omega) | (intro _; intros) | (refine ⟨_, by assumption, ?_⟩) | refine And.intro ?_ ?_))
        refine Or.inr ⟨by omega, _, by rw [Zlr]; rfl, _, by rw [Zlr]; rfl, ?_⟩
        exact Zvz
    · obtain hil : i = min l.length 20 := by omega
      have htk : (WU l).take i = WU l := List.take_of_length_le (by omega)
      rw [htk] at hS
      clear hH hsl hc htk
      rcases hS with ⟨h00, gA, gB⟩ | ⟨hne, ia, ib, gA, gB, t1a, t1b, d1, d2, d3, d4, d5⟩
      · have hnl : WU l = [] := List.eq_nil_of_length_eq_zero (by omega)
        have hv : isS (.v (.slice none 0 0)) (WU l) := Or.inl ⟨hnl, rfl⟩
        subst h00
        clear hnl hil
        exact Zvy
      · have hnl : WU l ≠ [] := fun he => by rw [he] at hls; exact hne (by rw [hil, ← hls]; rfl)
        have hv : isS (.sl ia i (VQ (WU l))) (WU l) := Or.inr ⟨hnl, ia, by rw [hil, ← hls]⟩
        clear hil
        exact Zvy
theorem vc7n (h7 : T 7 = q7) (hq : Q (.tup [.v (.slice none 0 0), .v (.slice none 0 0)]) h) : VC E T 7 [.v (.slice none 0 0)] h Q R := by
  have hm0 : min 0 20 = 0 := rfl
  refine Zp h7 ?_
  unfold Zs
  repeat' (with_reducible (first | refine Za ?_ | refine Zb ?_ | refine Zk ?_ | refine Zj ?_ | refine Zd ?_ | refine Z3 ?_ | refine Zc ?_ | refine Zl ?_ | refine Z9 ?_ | refine Z4 ?_ | refine Ze ?_ | refine WV ?_ | simp (maxSteps := 2000000) (disch := first | assumption | omega | (simp only [Z1, Z0, List.length_cons, List.length_nil, List.length_append, List.length_take, List.length_drop]; omega) | fail) only [go_sem, -Int.reduceOfNat, *, Zcb, W1] | ((first | refine Zn ?_ ?_ | refine Zh ?_ ?_ | refine Zm ?_ ?_ | refine Zf ?_ ?_ | refine Zg ?_ ?_ | refine Z5 ?_ ?_) <;> intro _ <;> (try (exfalso; omega))) | (show Q _ _; exact hq) | assumption | exact trivial | (show _ < _; omega) | (show _ ≤ _; omega) | (show ¬ (_ : Nat) = _; omega) | (show (_ : Nat) ≠ _; omega) | (show (_ : Nat) = _; omega) | (intro _; intros) | (refine ⟨_, by assumption, ?_⟩) | refine And.intro ?_ ?_))
end
section
variable {h : H} {Q : D → H → Prop} {R : Y1}
def q98 : Yd := Uz Zs (fun t h => .ok (Gt 2 t) h)
 (Z2 (Z7<|fo (UA 39 (Gt 0)) (St 1)<|fo (ZC (kD (.v (.bool false)))) (St 2)<|Z8)
 (Z2 (Z2 (Z7<|mF 0 1 3<|mL 3 4<|fo (Zq WH .lss 35 (.tmp 4) (.const (.int .i64 (.ofNat 0))) (Gt 4) (kI 0)) (St 5)<|mM 5 6<|YG (Gt 6) false (u1 (ZL 0) (Gt 1)) (St 7)<|YG (Gt 6) false (ZO (Gt 7)) (St 8)<|YG (Gt 6) false (Zq Zc3 .geq 35 (.tmp 8) (.const (.int .i64 (.ofNat 5))) (Gt 8) (kI 5)) (St 9)<|fo (Xa (Gt 6) (kD (.v (.bool true))) (Gt 9)) (St 10)<|Z8)
 (Zt (Gt 10) (Z2 (Z7<|fo (ZC (kD (.v (.bool false)))) (St 2)<|Z8)
 ZF) ZJ))
 (Z2 (Z7<|mF 0 1 11<|mL 11 12<|fo (mQ 35 12 1) (St 13)<|mM 13 14<|YG (Gt 14) false (u1 (ZL 1) (Gt 1)) (St 15)<|YG (Gt 14) false (ZO (Gt 15)) (St 16)<|YG (Gt 14) false (Zq YD .eql 36 (.tmp 16) (.const (.int .u64 (.ofNat 0))) (Gt 16) (kD (.int .u64 (.ofNat 0)))) (St 17)<|fo (Xa (Gt 14) (kD (.v (.bool true))) (Gt 17)) (St 18)<|mM 18 19<|YG (Gt 19) true (u1 (ZL 0) (Gt 1)) (St 20)<|YG (Gt 19) true (ZO (Gt 20)) (St 21)<|YG (Gt 19) true (mQ 35 21 2) (St 22)<|YG (Gt 19) true (ZC (Gt 22)) (St 23)<|YG (Gt 23) false (u1 (ZL 2) (Gt 1)) (St 24)<|YG (Gt 23) false (ZO (Gt 24)) (St 25)<|YG (Gt 23) false (Zq YD .eql 9 (.tmp 25) (.const (.string ⟨#[]⟩)) (Gt 25) (kS [])) (St 26)<|YG (Gt 19) true (Xa (Gt 23) (kD (.v (.bool true))) (Gt 26)) (St 27)<|fo (Xa (Gt 19) (Gt 27) (kD (.v (.bool false)))) (St 28)<|mM 28 29<|YG (Gt 29) true (u1 (ZL 0) (Gt 1)) (St 30)<|YG (Gt 29) true (ZO (Gt 30)) (St 31)<|YG (Gt 29) true (Zq Zc3 .geq 35 (.tmp 31) (.const (.int .i64 (.ofNat 3))) (Gt 31) (kI 3)) (St 32)<|YG (Gt 29) true (ZC (Gt 32)) (St 33)<|YG (Gt 33) false (u1 (ZL 3) (Gt 1)) (St 34)<|YG (Gt 33) false (ZO (Gt 34)) (St 35)<|YG (Gt 33) false (u1 YI (Gt 35)) (St 36)<|YG (Gt 33) false (mQ 3 36 0) (St 37)<|YG (Gt 29) true (Xa (Gt 33) (kD (.v (.bool true))) (Gt 37)) (St 38)<|fo (Xa (Gt 29) (Gt 38) (kD (.v (.bool false)))) (St 39)<|mM 39 2<|Z8)
 ZF)))
def q62 : Yd := Uz Zs (fun t h => .ok (Gt 4 t) h)
 (Z2 (Z7<|fo (UA 39 (Gt 0)) (St 2)<|fo (ZC (kI 0)) (St 4)<|Z8)
 (Z2 (Z2 (Z7<|fo (Yy 4 (Gt 2)) (St 9)<|mK 98 [(Gt 9)] 10<|fo (u1 (Zft .not) (Gt 10)) (St 11)<|mM 11 12<|YG (Gt 12) false (ZC (Gt 1)) (St 13)<|YG (Gt 12) false (mQ 3 13 0) (St 14)<|fo (Xa (Gt 12) (kD (.v (.bool true))) (Gt 14)) (St 15)<|Z8)
 (Zt (Gt 15) (Z2 (Z7<|fo (ZC (kI 0)) (St 4)<|Z8)
 ZF) ZJ))
 (Z2 (Z7<|fo (ZC (kI 1)) (St 5)<|Z8)
 (Z2 (Z2 (Z7<|mF 3 2 16<|mL 16 17<|fo (u1 YI (Gt 17)) (St 18)<|fo (ZC (kI 0)) (St 19)<|Z8)
 (ZM 0 (Xi (Z2 (Z7<|fo (Zq WH .lss 3 (.tmp 19) (.tmp 18) (Gt 19) (Gt 18)) (St 20)<|Z8)
 (Z2 (Zt (Gt 20) ZJ (WS 0))
 (Z2 (ZM 1 (Z2 (Z7<|fo (u2 (Ym 4) (Gt 17) (Gt 19)) (St 21)<|fo (Yy 4 (Gt 21)) (St 22)<|fo (ZN 39 [(.int .i64 (.ofNat 0)),(.int .u64 (.ofNat 0)),(.str []),(.v (.slice none 0 0))]) (St 7)<|fo (ZV 4 (Gt 7) (Gt 22)) p0<|Z8)
 (Z2 (Z7<|fo (Yy 4 (Gt 7)) (St 23)<|mM 1 24<|fo (Zq Zgh .sub 3 (.tmp 24) (.const (.int .i64 (.ofNat 1))) (Gt 24) (kI 1)) (St 25)<|mK 62 [(Gt 23),(Gt 25)] 26<|mM 26 8<|Z8)
 (Z2 (Z2 (Z7<|mM 8 27<|fo (mQ 3 27 0) (St 28)<|Z8)
 (Zt (Gt 28) (Z2 (Z7<|fo (ZC (kI 0)) (St 4)<|Z8)
 ZF) ZJ))
 (Z7<|mM 5 29<|mM 8 30<|fo (Zq YJ .add 3 (.tmp 29) (.tmp 30) (Gt 29) (Gt 30)) (St 31)<|mM 31 5<|Z8)))))
 (Z7<|fo (Zq YJ .add 3 (.tmp 19) (.const (.int .i64 (.ofNat 1))) (Gt 19) (kI 1)) (St 32)<|mM 32 19<|Z8)))))))
 (Z2 (Z7<|mM 5 33<|mM 33 4<|Z8)
 ZF)))))
def q35 : Yd := Uz Zs (fun t h => .ok (Gt 2 t) h)
 (Z2 (Z7<|fo (UA 39 (Gt 0)) (St 1)<|fo (ZC (kI 0)) (St 2)<|Z8)
 (Z2 (Z7<|fo (Yy 4 (Gt 1)) (St 3)<|mK 62 [(Gt 3),(kI 1200)] 4<|mM 4 2<|Z8)
 ZF))
def q27 : Yd := Uz Zs (fun t h => .ok (Gt 2 t) h)
 (Z2 (Z7<|fo (UA 39 (Gt 0)) (St 1)<|fo (ZC (kD (.v (.bool false)))) (St 2)<|Z8)
 (Z2 (Z7<|fo (Yy 4 (Gt 1)) (St 3)<|mK 35 [(Gt 3)] 4<|fo (Zq Zcy .gtr 3 (.tmp 4) (.const (.int .i64 (.ofNat 0))) (Gt 4) (kI 0)) (St 5)<|mM 5 2<|Z8)
 ZF))
def q28 : Yd := Uz Zs (fun t h => .ok (Gt 4 t) h)
 (Z2 (Z7<|fo (UA 39 (Gt 0)) (St 2)<|fo (UA 39 (Gt 1)) (St 3)<|fo (ZC (kD (.v (.bool false)))) (St 4)<|Z8)
 (Z2 (Z2 (Z7<|mF 0 2 6<|mL 6 7<|mF 0 3 8<|mL 8 9<|fo (Zq VT .neq 35 (.tmp 7) (.tmp 9) (Gt 7) (Gt 9)) (St 10)<|mM 10 11<|YG (Gt 11) false (u1 (ZL 1) (Gt 2)) (St 12)<|YG (Gt 11) false (ZO (Gt 12)) (St 13)<|YG (Gt 11) false (u1 (ZL 1) (Gt 3)) (St 14)<|YG (Gt 11) false (ZO (Gt 14)) (St 15)<|YG (Gt 11) false (Zq VT .neq 36 (.tmp 13) (.tmp 15) (Gt 13) (Gt 15)) (St 16)<|fo (Xa (Gt 11) (kD (.v (.bool true))) (Gt 16)) (St 17)<|mM 17 18<|YG (Gt 18) false (u1 (ZL 2) (Gt 2)) (St 19)<|YG (Gt 18) false (ZO (Gt 19)) (St 20)<|YG (Gt 18) false (u1 (ZL 2) (Gt 3)) (St 21)<|YG (Gt 18) false (ZO (Gt 21)) (St 22)<|YG (Gt 18) false (Zq VT .neq 9 (.tmp 20) (.tmp 22) (Gt 20) (Gt 22)) (St 23)<|fo (Xa (Gt 18) (kD (.v (.bool true))) (Gt 23)) (St 24)<|mM 24 25<|YG (Gt 25) false (u1 (ZL 3) (Gt 2)) (St 26)<|YG (Gt 25) false (ZO (Gt 26)) (St 27)<|YG (Gt 25) false (u1 YI (Gt 27)) (St 28)<|YG (Gt 25) false (u1 (ZL 3) (Gt 3)) (St 29)<|YG (Gt 25) false (ZO (Gt 29)) (St 30)<|YG (Gt 25) false (u1 YI (Gt 30)) (St 31)<|YG (Gt 25) false (Zq VT .neq 3 (.tmp 28) (.tmp 31) (Gt 28) (Gt 31)) (St 32)<|fo (Xa (Gt 25) (kD (.v (.bool true))) (Gt 32)) (St 33)<|Z8)
 (Zt (Gt 33) (Z2 (Z7<|fo (ZC (kD (.v (.bool false)))) (St 4)<|Z8)
 ZF) ZJ))
 (Z2 (Z2 (Z7<|mF 3 2 34<|mL 34 35<|fo (u1 YI (Gt 35)) (St 36)<|fo (ZC (kI 0)) (St 37)<|Z8)
 (ZM 0 (Xi (Z2 (Z7<|fo (Zq WH .lss 3 (.tmp 37) (.tmp 36) (Gt 37) (Gt 36)) (St 38)<|Z8)
 (Z2 (Zt (Gt 38) ZJ (WS 0))
 (Z2 (ZM 1 (Z2 (Z7<|mM 37 39<|mM 39 5<|Z8)
 (Z2 (YY<|Zu (u1 (ZL 3) (Gt 2)) (St 40)<|Xj 1 [] 1 (Gt 40) (ZO (Gt 40)) (St 41)<|Zu (ZC (Gt 5)) (St 42)<|Zu (u2 (Ym 4) (Gt 41) (Gt 42)) (St 43)<|Xj 4 [] 4 (Gt 43) (Yy 4 (Gt 43)) (St 44)<|Zu (u1 (ZL 3) (Gt 3)) (St 45)<|Xj 6 [0,1,2,3,4] 1 (Gt 45) (ZO (Gt 45)) (St 46)<|Zu (ZC (Gt 5)) (St 47)<|Zu (u2 (Ym 4) (Gt 46) (Gt 47)) (St 48)<|Xj 9 [0,1,2,3,4] 4 (Gt 48) (Yy 4 (Gt 48)) (St 49)<|Zim 10 [] (ZW 28 [(Gt 44),(Gt 49)]) (St 50)<|Zu (u1 (Zft .not) (Gt 50)) (St 51)<|YZ)
 (Zt (Gt 51) (Z2 (Z7<|fo (ZC (kD (.v (.bool false)))) (St 4)<|Z8)
 ZF) ZJ))))
 (Z7<|fo (Zq YJ .add 3 (.tmp 37) (.const (.int .i64 (.ofNat 1))) (Gt 37) (kI 1)) (St 52)<|mM 52 37<|Z8)))))))
 (Z2 (Z7<|fo (ZC (kD (.v (.bool true)))) (St 4)<|Z8)
 ZF))))
def q12 : Yd := Uz Zs (fun t h => .ok (Gt 4 t) h)
 (Z2 (Z7<|fo (UA 39 (Gt 0)) (St 2)<|fo (UA 39 (Gt 1)) (St 3)<|fo (ZC (kD (.v (.bool false)))) (St 4)<|Z8)
 (Z2 (Z7<|fo (Yy 4 (Gt 2)) (St 5)<|mK 27 [(Gt 5)] 6<|mM 6 7<|YG (Gt 7) true (Yy 4 (Gt 3)) (St 8)<|YG (Gt 7) true (ZW 27 [(Gt 8)]) (St 9)<|fo (Xa (Gt 7) (Gt 9) (kD (.v (.bool false)))) (St 10)<|mM 10 11<|YG (Gt 11) true (Yy 4 (Gt 2)) (St 12)<|YG (Gt 11) true (Yy 4 (Gt 3)) (St 13)<|YG (Gt 11) true (ZW 28 [(Gt 12),(Gt 13)]) (St 14)<|fo (Xa (Gt 11) (Gt 14) (kD (.v (.bool false)))) (St 15)<|mM 15 4<|Z8)
 ZF))
abbrev LF (k : Nat) (s : List Nat) : D := .agg [.int .i64 (.ofNat k), .int .u64 (.ofNat 0), .str s, .v (.slice none 0 0)]
def Zjv (k : Nat) (s : List Nat) : Prop := (k = 0 ∧ s = []) ∨ k = 2
theorem vc98  (h98 : T 98 = q98) {k : Nat} {s : List Nat} (hk : Zjv k s) (hq : ∀ h', h.next ≤ h'.next → (∀ l, l < h.next → hget h'.mem l = hget h.mem l) → Q (.v (.bool true)) h') : VC E T 98 [LF k s] h Q R := by
  rcases hk with ⟨rfl, rfl⟩ | rfl
  all_goals
    refine Zp h98 ?_
    unfold Zs
    repeat' (with_reducible (first | refine Za ?_ | refine Zb ?_ | refine Zk ?_ | refine Zj ?_ | refine Zd ?_ | refine Z3 ?_ | refine Zc ?_ | refine Zl ?_ | refine Z9 ?_ | refine Z4 ?_ | refine Ze ?_ | simp (maxSteps := 2000000) (disch := first | assumption | omega | (simp only [Z1, Z0, List.length_cons, List.length_nil, List.length_append, List.length_take, List.length_drop]; omega) | fail) only [go_sem, -Int.reduceOfNat, *] | ((first | refine Zn ?_ ?_ | refine Zh ?_ ?_ | refine Zm ?_ ?_ | refine Zf ?_ ?_ | refine Zg ?_ ?_ | refine Z5 ?_ ?_) <;> intro _ <;> (try (exfalso; omega))) | (intro h2 f1 f2) | (show Q _ _; refine hq _ ?_ ?_) | assumption | exact trivial | (show _ < _; omega) | (show _ ≤ _; omega) | (show ¬ (_ : Nat) = _; omega) | (show (_ : Nat) ≠ _; omega) | (show (_ : Nat) = _; omega) | (intro _; intros) | (refine ⟨_, by assumption, ?_⟩) | refine And.intro ?_ ?_))
theorem vc62 (h98 : T 98 = q98) (h62 : T 62 = q62) {k : Nat} {s : List Nat} (hk : Zjv k s) (hq : ∀ h', h.next ≤ h'.next → (∀ l, l < h.next → hget h'.mem l = hget h.mem l) → Q (.int .i64 (.ofNat 1)) h') : VC E T 62 [LF k s, .int .i64 (.ofNat 1200)] h Q R := by
  rcases hk with ⟨rfl, rfl⟩ | rfl
  all_goals
    refine Zp h62 ?_
    unfold Zs
    repeat' (with_reducible (first | refine Za ?_ | refine Zb ?_ | refine Zk ?_ | refine Zj ?_ | refine Zd ?_ | refine Z3 ?_ | refine Zc ?_ | refine Zl ?_ | refine Z9 ?_ | refine Z4 ?_ | refine Ze ?_ | refine WV ?_ | (refine vc98 h98 (by unfold Zjv; simp) ?_) | simp (maxSteps := 2000000) (disch := first | assumption | omega | (simp only [Z1, Z0, List.length_cons, List.length_nil, List.length_append, List.length_take, List.length_drop]; omega) | fail) only [go_sem, -Int.reduceOfNat, *] | ((first | refine Zn ?_ ?_ | refine Zh ?_ ?_ | refine Zm ?_ ?_ | refine Zf ?_ ?_ | refine Zg ?_ ?_ | refine Z5 ?_ ?_) <;> intro _ <;> (try (exfalso; omega))) | (intro h2 f1 f2) | (show Q _ _; refine hq _ ?_ ?_) | assumption | exact trivial | (show _ < _; omega) | (show _ ≤ _; omega) | (show ¬ (_ : Nat) = _; omega) | (show (_ : Nat) ≠ _; omega) | (show (_ : Nat) = _; omega) | (intro _; intros) | (refine ⟨_, by assumption, ?_⟩) | refine And.intro ?_ ?_))
theorem vc35 (h98 : T 98 = q98) (h62 : T 62 = q62) (h35 : T 35 = q35) {k : Nat} {s : List Nat} (hk : Zjv k s) (hq : ∀ h', h.next ≤ h'.next → (∀ l, l < h.next → hget h'.mem l = hget h.mem l) → Q (.int .i64 (.ofNat 1)) h') : VC E T 35 [LF k s] h Q R := by
  rcases hk with ⟨rfl, rfl⟩ | rfl
  all_goals
    refine Zp h35 ?_
    unfold Zs
    repeat' (with_reducible (first | refine Za ?_ | refine Zb ?_ | refine Zk ?_ | refine Zj ?_ | refine Zd ?_ | refine Z3 ?_ | refine Zc ?_ | refine Zl ?_ | refine Z9 ?_ | refine Z4 ?_ | refine Ze ?_ | (refine vc62 h98 h62 (by unfold Zjv; simp) ?_) | simp (maxSteps := 2000000) (disch := first | assumption | omega | (simp only [Z1, Z0, List.length_cons, List.length_nil, List.length_append, List.length_take, List.length_drop]; omega) | fail) only [go_sem, -Int.reduceOfNat, *] | ((first | refine Zn ?_ ?_ | refine Zh ?_ ?_ | refine Zm ?_ ?_ | refine Zf ?_ ?_ | refine Zg ?_ ?_ | refine Z5 ?_ ?_) <;> intro _ <;> (try (exfalso; omega))) | (intro h2 f1 f2) | (show Q _ _; refine hq _ ?_ ?_) | assumption | exact trivial | (show _ < _; omega) | (show _ ≤ _; omega) | (show ¬ (_ : Nat) = _; omega) | (show (_ : Nat) ≠ _; omega) | (show (_ : Nat) = _; omega) | (intro _; intros) | (refine ⟨_, by assumption, ?_⟩) | refine And.intro ?_ ?_))
theorem vc27 (h98 : T 98 = q98) (h62 : T 62 = q62) (h35 : T 35 = q35) (h27 : T 27 = q27) {k : Nat} {s : List Nat} (hk : Zjv k s) (hq : ∀ h', h.next ≤ h'.next → (∀ l, l < h.next → hget h'.mem l = hget h.mem l) → Q (.v (.bool true)) h') : VC E T 27 [LF k s] h Q R := by
  rcases hk with ⟨rfl, rfl⟩ | rfl
  all_goals
    refine Zp h27 ?_
    unfold Zs
    repeat' (with_reducible (first | refine Za ?_ | refine Zb ?_ | refine Zk ?_ | refine Zj ?_ | refine Zd ?_ | refine Z3 ?_ | refine Zc ?_ | refine Zl ?_ | refine Z9 ?_ | refine Z4 ?_ | refine Ze ?_ | (refine vc35 h98 h62 h35 (by unfold Zjv; simp) ?_) | simp (maxSteps := 2000000) (disch := first | assumption | omega | (simp only [Z1, Z0, List.length_cons, List.length_nil, List.length_append, List.length_take, List.length_drop]; omega) | fail) only [go_sem, -Int.reduceOfNat, *] | ((first | refine Zn ?_ ?_ | refine Zh ?_ ?_ | refine Zm ?_ ?_ | refine Zf ?_ ?_ | refine Zg ?_ ?_ | refine Z5 ?_ ?_) <;> intro _ <;> (try (exfalso; omega))) | (intro h2 f1 f2) | (show Q _ _; refine hq _ ?_ ?_) | assumption | exact trivial | (show _ < _; omega) | (show _ ≤ _; omega) | (show ¬ (_ : Nat) = _; omega) | (show (_ : Nat) ≠ _; omega) | (show (_ : Nat) = _; omega) | (intro _; intros) | (refine ⟨_, by assumption, ?_⟩) | refine And.intro ?_ ?_))
theorem vc28  (h28 : T 28 = q28) {k : Nat} {s : List Nat} (hk : Zjv k s) (hq : ∀ h', h.next ≤ h'.next → (∀ l, l < h.next → hget h'.mem l = hget h.mem l) → Q (.v (.bool true)) h') : VC E T 28 [LF k s, LF k s] h Q R := by
  rcases hk with ⟨rfl, rfl⟩ | rfl
  all_goals
    refine Zp h28 ?_
    unfold Zs
    repeat' (with_reducible (first | refine Za ?_ | refine Zb ?_ | refine Zk ?_ | refine Zj ?_ | refine Zd ?_ | refine Z3 ?_ | refine Zc ?_ | refine Zl ?_ | refine Z9 ?_ | refine Z4 ?_ | refine Ze ?_ | refine WV ?_ | simp (maxSteps := 2000000) (disch := first | assumption | omega | (simp only [Z1, Z0, List.length_cons, List.length_nil, List.length_append, List.length_take, List.length_drop]; omega) | fail) only [go_sem, -Int.reduceOfNat, *] | ((first | refine Zn ?_ ?_ | refine Zh ?_ ?_ | refine Zm ?_ ?_ | refine Zf ?_ ?_ | refine Zg ?_ ?_ | refine Z5 ?_ ?_) <;> intro _ <;> (try (exfalso; omega))) | (intro h2 f1 f2) | (show Q _ _; refine hq _ ?_ ?_) | assumption | exact trivial | (show _ < _; omega) | (show _ ≤ _; omega) | (show ¬ (_ : Nat) = _; omega) | (show (_ : Nat) ≠ _; omega) | (show (_ : Nat) = _; omega) | (intro _; intros) | (refine ⟨_, by assumption, ?_⟩) | refine And.intro ?_ ?_))
theorem vc12 (h98 : T 98 = q98) (h62 : T 62 = q62) (h35 : T 35 = q35) (h27 : T 27 = q27) (h28 : T 28 = q28) (h12 : T 12 = q12) {k : Nat} {s : List Nat} (hk : Zjv k s) (hq : ∀ h', h.next ≤ h'.next → (∀ l, l < h.next → hget h'.mem l = hget h.mem l) → Q (.v (.bool true)) h') : VC E T 12 [LF k s, LF k s] h Q R := by
  rcases hk with ⟨rfl, rfl⟩ | rfl
  all_goals
    refine Zp h12 ?_
    unfold Zs
    repeat' (with_reducible (first | refine Za ?_ | refine Zb ?_ | refine Zk ?_ | refine Zj ?_ | refine Zd ?_ | refine Z3 ?_ | refine Zc ?_ | refine Zl ?_ | refine Z9 ?_ | refine Z4 ?_ | refine Ze ?_ | (refine vc27 h98 h62 h35 h27 (by unfold Zjv; simp) ?_) | (refine vc28 h28 (by unfold Zjv; simp) ?_) | simp (maxSteps := 2000000) (disch := first | assumption | omega | (simp only [Z1, Z0, List.length_cons, List.length_nil, List.length_append, List.length_take, List.length_drop]; omega) | fail) only [go_sem, -Int.reduceOfNat, *] | ((first | refine Zn ?_ ?_ | refine Zh ?_ ?_ | refine Zm ?_ ?_ | refine Zf ?_ ?_ | refine Zg ?_ ?_ | refine Z5 ?_ ?_) <;> intro _ <;> (try (exfalso; omega))) | (intro h2 f1 f2) | (show Q _ _; refine hq _ ?_ ?_) | assumption | exact trivial | (show _ < _; omega) | (show _ ≤ _; omega) | (show ¬ (_ : Nat) = _; omega) | (show (_ : Nat) ≠ _; omega) | (show (_ : Nat) = _; omega) | (intro _; intros) | (refine ⟨_, by assumption, ?_⟩) | refine And.intro ?_ ?_))
end
end Run
end
end Go.Abs
