/- Lists: walks of the program. -/
import Derived.Test.YthifolidfjpdkaaGreatDoorReI
set_option linter.unusedVariables false
set_option linter.unusedSimpArgs false
namespace Go.Abs
noncomputable section
namespace Run
variable {E : Env} {T : Nat → Yd}
set_option maxHeartbeats 4000000
set_option maxRecDepth 100000
theorem Zv0 {G : Prop} (g : G := by
  repeat' (with_reducible (first | refine Za ?_ | refine Zb ?_ | refine Zk ?_ | refine Zj ?_ | refine Zd ?_ | refine Z3 ?_ | refine Zc ?_ | refine Zl ?_ | refine Z9 ?_ | refine Z4 ?_ | refine Ze ?_ | refine vc229 hVL hdc2 hdo2 ?_ | simp (maxSteps := 2000000) (disch := first | assumption | (show Zeh _ _; exact WR (by assumption) (by omega)) | omega | (simp only [Z1, Z0, List.length_cons, List.length_nil, List.length_append, List.length_take, List.length_drop]; omega) | fail) only [go_sem, -Int.reduceOfNat, *] | ((first | refine Zn ?_ ?_ | refine Zh ?_ ?_ | refine Zm ?_ ?_ | refine Zf ?_ ?_ | refine Zg ?_ ?_ | refine Z5 ?_ ?_) <;> intro _ <;> (try (exfalso; omega))) | (show Q _ _; refine hq _ _ _ _ _ (Zrn (by omega) sl) ?_ ?_ ?_) | (rintro h1 n1 f1) | assumption | exact trivial | (show _ < _; omega) | (show _ ≤ _; omega) | (show ¬ (_ : Nat) = _; omega) | (show (_ : Nat) ≠ _; omega) | (show (_ : Nat) = _; omega) | (intro _; intros) | (refine ⟨_, by assumption, ?_⟩) | refine And.intro ?_ ?_))) : G := g
attribute [local go_sem] Zdv UJ Zdx UH UQ UG UM Zdu UL UK Zdt Wa US W7 UN V1 W9 YL V3 Zbi UU V0 UO UR UT V4 X8 V7 UP W8 W6 UI V5 V6 Zdz Zd0 UW Zaf Zab Wc Wb YM Zaa UZ Zdy Va Zai Zac Zag Vd Zad UX Zae UV V9 UY Vb Zah V8 Vc Zd1 Zak Zd5 Zaj Zd2 Zi0 Zi1 Ziy Ziz Zd3 Zd4 Za1 Za0 Za2 Za7 Za6 Za8 Zek Zej VA VB Vz Zd9 Vx Vy Vw Vt Zaw Wk Vq Vr Wm Wn Zaz Zay Zax Wj Xo W1 Zao Zeb Zeg Zpv Xr Xq Vo Zau Wo Vp Yu Y5 Xt YS WK patch YQ YR Xn Xm Wy Wx X1 X2 W5 VG Wu Xu YV Xp Wr XP Xs YO Yf YT mem_cons Zei Zea Xk Option.map_some Option.map_none Vv Wp Ws Wq Zav Vu Wl Vs YP X4 XA Xv XB Wz Xw Xz Xx YW Xy Vl Wh Vn Vi Zas Vj Vm Vk Wi Wg YD VT WH Zfx Zcy Zc3 Zb3 Zeo Zsi Xg XU VH WQ YN Xl YU Yv Yn X7 ZZ X5 List.drop_succ_cons List.drop_zero List.drop_nil List.take_succ_cons List.take_zero List.take_nil List.length_cons List.length_nil List.length_append List.cons_append List.nil_append Nat.reduceAdd Nat.reduceEqDiff Nat.reduceLeDiff Nat.reduceLT List.cons.injEq reduceCtorEq eq_self not_true_eq_false not_false_eq_true and_false false_and true_or or_true decide_true decide_false Bool.and_self Bool.and_true Bool.true_and Bool.true_or Bool.or_true Bool.false_or Bool.or_false Bool.false_and Bool.and_false Bool.not_true Bool.not_false cond_true cond_false true_and and_true Zex Zef Zen reduceIte Nat.add_zero Nat.zero_add Nat.add_sub_cancel Nat.reduceMul Nat.reduceSub Nat.reduceBEq List.map_cons List.map_nil Z1 Z0 Yw ZG Zr Zv Wd Zd6 XQ Yo Y0 Wf We XH XG and_assoc exists_and_left D.str.injEq Nat.lt_irrefl Nat.not_lt_zero true_implies false_implies implies_true forall_const ge_iff_le gt_iff_lt Nat.sub_zero List.append_assoc Option.some.injEq AObj.cells.injEq D.int.injEq D.ptr.injEq Int.ofNat.injEq exists_eq_left' D.v.injEq Value.bool.injEq D.agg.injEq Nat.mul_one
section
variable {h : H} {Q : D → H → Prop} {R : Y1}
section
variable {F : XF} {crc : Zkz} {ds de dt : D} {inp : List Nat} {pr ps p e0 n : Nat} {env : Ev} {fp : D} {kind : Nat → Ev → Nat → Nat → Nat → RO V}
def q174 : Yd := Uz Zs (fun t h => VU ⟨[.cN 4 4], .skip⟩ (act t) h)
 (Z2 (Z7<|fo (UA 109 (Gt 1)) (St 3)<|fo (ZN 39 [(.int .i64 (.ofNat 0)),(.int .u64 (.ofNat 0)),(.str []),(.v (.slice none 0 0))]) (St 4)<|Z8)
 (Z2 (Z7<|mM 0 7<|mF 5 3 8<|mL 8 9<|mK 125 [(Gt 7),(Gt 9)] 10<|mM 10 5<|Z8)
 (Z2 (Z2 (Z7<|mM 5 11<|fo (Zq Zcy .gtr 36 (.tmp 11) (.const (.int .u64 (.ofNat 65536))) (Gt 11) (kD (.int .u64 (.ofNat 65536)))) (St 12)<|Z8)
 (Zt (Gt 12) (Z7<|mM 0 13<|mN 13 14<|mF 0 14 15<|mL 15 16<|mK 57 [(Gt 16),(kI 10)] 17<|Z8) ZJ))
 (Z2 (Z7<|mM 0 18<|mN 18 19<|mF 0 19 20<|mL 20 21<|mK 85 [(Gt 21)] 22<|Z8)
 (Z2 (Z7<|fo (ZC (kD (.v (.slice none 0 0)))) (St 6)<|Z8)
 (Z2 (Z2 (Z7<|mM 5 23<|fo (ZC (kD (.int .u64 (.ofNat 0)))) (St 24)<|Z8)
 (ZM 0 (Xi (Z2 (Z7<|fo (Zq WH .lss 36 (.tmp 24) (.tmp 23) (Gt 24) (Gt 23)) (St 25)<|Z8)
 (Z2 (Zt (Gt 25) ZJ (WS 0))
 (Z2 (ZM 1 (Z7<|mM 6 26<|mM 0 27<|mF 6 3 28<|mL 28 29<|mK 123 [(Gt 27),(Gt 29)] 30<|fo (XK 39 1 [(.int .i64 (.ofNat 0)),(.int .u64 (.ofNat 0)),(.str []),(.v (.slice none 0 0))] [(0,4,(Gt 30))]) (St 31)<|fo (u2 (Zbl 39 4 56) (Gt 26) (Gt 31)) (St 32)<|mM 32 6<|Z8))
 (Z7<|fo (Zq YJ .add 36 (.tmp 24) (.const (.int .u64 (.ofNat 1))) (Gt 24) (kD (.int .u64 (.ofNat 1)))) (St 33)<|mM 33 24<|Z8)))))))
 (Z2 (Z7<|mM 6 34<|mK 229 [(Gt 34)] 35<|fo (ZV 4 (Gt 4) (Gt 35)) p0<|Z8)
 ZF)))))))
def q175 : Yd := Uz Zs (fun t h => VU ⟨[.cN 4 4], .skip⟩ (act t) h)
 (Z2 (Z7<|fo (UA 109 (Gt 1)) (St 3)<|fo (ZN 39 [(.int .i64 (.ofNat 0)),(.int .u64 (.ofNat 0)),(.str []),(.v (.slice none 0 0))]) (St 4)<|Z8)
 (Z2 (Z7<|mM 0 7<|mN 7 8<|mF 0 8 9<|mL 9 10<|mK 85 [(Gt 10)] 11<|Z8)
 (Z2 (Z7<|fo (ZC (kD (.v (.slice none 0 0)))) (St 5)<|Z8)
 (Z2 (ZM 0 (Xi (Z2 (Z2 (YY<|Zu (ZC (Gt 0)) (St 12)<|Zu (u1 Zo (Gt 12)) (St 13)<|Zu (u1 (ZL 0) (Gt 13)) (St 14)<|Xj 3 [] 1 (Gt 14) (ZO (Gt 14)) (St 15)<|Zu (u1 Zo (Gt 15)) (St 16)<|Zu (u1 (ZL 2) (Gt 16)) (St 17)<|Xj 6 [] 1 (Gt 17) (ZO (Gt 17)) (St 18)<|Zu (ZC (Gt 0)) (St 19)<|Zu (u1 Zo (Gt 19)) (St 20)<|Zu (u1 (ZL 0) (Gt 20)) (St 21)<|Xj 10 [0,1,2,3,4,5,6] 1 (Gt 21) (ZO (Gt 21)) (St 22)<|Zu (u1 Zo (Gt 22)) (St 23)<|Zu (u1 (ZL 3) (Gt 23)) (St 24)<|Xj 13 [0,1,2,3,4,5,6] 1 (Gt 24) (ZO (Gt 24)) (St 25)<|Zu (Zq WH .lss 3 (.tmp 18) (.tmp 25) (Gt 18) (Gt 25)) (St 26)<|YZ)
 (Zt (Gt 26) ZJ (WS 0)))
 (ZM 1 (Z2 (Z7<|mM 0 27<|mN 27 28<|mF 0 28 29<|mL 29 30<|mN 30 31<|mF 2 31 32<|mL 32 33<|mM 33 6<|Z8)
 (Z2 (Z7<|mM 5 34<|mM 0 35<|mF 6 3 36<|mL 36 37<|mK 123 [(Gt 35),(Gt 37)] 38<|fo (XK 39 1 [(.int .i64 (.ofNat 0)),(.int .u64 (.ofNat 0)),(.str []),(.v (.slice none 0 0))] [(0,4,(Gt 38))]) (St 39)<|fo (u2 (Zbl 39 4 56) (Gt 34) (Gt 39)) (St 40)<|mM 40 5<|Z8)
 (Z2 (Z7<|mM 0 41<|mN 41 42<|mF 0 42 43<|mL 43 44<|mN 44 45<|mF 2 45 46<|mL 46 47<|mM 6 48<|fo (Zq YD .eql 3 (.tmp 47) (.tmp 48) (Gt 47) (Gt 48)) (St 49)<|Z8)
 (Zt (Gt 49) (Z7<|mM 0 50<|mN 50 51<|mF 0 51 52<|mL 52 53<|mK 57 [(Gt 53),(kI 14)] 54<|Z8) ZJ))))))))
 (Z2 (Z7<|mM 5 55<|mK 229 [(Gt 55)] 56<|fo (ZV 4 (Gt 4) (Gt 56)) p0<|Z8)
 ZF)))))
def Fr (d : D) (b : Nat) : Prop := ∀ l, own d l → b ≤ l
theorem Zui {b : Nat} : Fr (.v (.slice none 0 0)) b := fun l hl => hl.elim
theorem WR {d : D} {b l : Nat} (h : Fr d b) (hl : l < b) : Zeh d l := fun ho => absurd (h l ho) (by omega)
theorem Zle {d d' : D} {b n : Nat} (h : Zqn d' d n) (hf : Fr d b) (hb : b ≤ n) : Fr d' b := fun l hl => by
  by_cases hln : l < n
  · exact hf l (Classical.byContradiction fun hd => (h l hln).2 hd hl)
  · omega
theorem Zpd {h h' : H} {ty : TypeId} {d : D} {n b pr : Nat} (ht : Tp h ty d n) (hf : Fr d b) (hb : pr < b) (hn : h.next ≤ h'.next) (hx : ∀ x, x < h.next → x ≠ pr → hget h'.mem x = hget h.mem x) : Tp h' ty d n := ht.mono hn fun l hl h2 => hx l h2 (by have := hf l hl; omega)
theorem Zpe {h : H} {o : AObj} {ty : TypeId} {d : D} {n : Nat} (ht : Tp h ty d n) : Tp (Ua h o) ty d n := ht.mono (by simp only [Z1]; omega) fun l _ h2 => ZG (by omega)
theorem add_u64 {m n : Nat} (h : m + n < 18446744073709551616) : YJ .u64 (.ofNat m) (.ofNat n) = .int .u64 (.ofNat (m + n)) := by
  show D.int .u64 (Zb1 .u64 (.ofNat (m + n))) = _
  rw [XD h]
abbrev IAr (h : H) (pr ps k : Nat) (fp : D) (inp : List Nat) (e0 : Nat) (tc : List D) (g : Nat → Nat → RO V) (X : RO (List V)) (m : Nat) (t1 : Tr D) (h1 : H) : Prop :=
  h.next + 2 ≤ h1.next ∧ (∀ x, x < h.next → x ≠ pr → hget h1.mem x = hget h.mem x) ∧ hget h1.mem h.next = some (.cells 109 tc) ∧ hget h1.mem (h.next + 1) = some (.cells 39 [.int .i64 (.ofNat 0), .int .u64 (.ofNat 0), .str [], .v (.slice none 0 0)]) ∧ Gt 0 t1 = .ptr ps 0 ∧ Gt 3 t1 = .ptr h.next 0 ∧ Gt 4 t1 = .ptr (h.next + 1) 0 ∧ Gt 23 t1 = .int .u64 (.ofNat k) ∧ ∃ d, Gt 6 t1 = d ∧ ∃ j, Gt 24 t1 = .int .u64 (.ofNat j) ∧ j + m = k ∧ ∃ out p' n', UC Rep 4 d out ∧ Tp h1 39 d out.length ∧ Fr d (h.next + 2) ∧ out.length = j ∧ hget h1.mem pr = some (RC fp inp p' e0 n') ∧ p' ≤ e0 ∧ n' ≤ 1048576 ∧ Zky g m out p' n' = X
theorem vc174 (hT : RT E T F ds de dt) (h174 : T 174 = q174) (ih : VK E T inp ds de dt kind) (hke : Zya inp kind) (hL : inp.length ≤ 1048576) {size i w : Nat} {lit : Bool} {nm : List Nat} {cs : List XC} {dk : D} (hk : UC Zuz 2 dk cs) (at_ : At_ inp pr ps p e0 n env (Y7 ds de dt) h) {u : Nat × Nat} (hu : Zi7 F env (.ofNat i) = u) (hq : KQ (if u.2 = 0 then (if u.1 > 65536 then .err p 10 else (WY () p n).bind fun _ p n => (Zky (fun p n => kind w env p e0 n) u.1 [] p n).bind fun l p n => .ok (Z0d l) p n) else if u.2 = 99 then .oof else .err p u.2) (Y7 ds de dt) inp pr e0 h Q R) : VC E T 174 [.ptr ps 0, .agg [.int .i64 (.ofNat 5), .int .i64 (.ofNat size), .v (.bool lit), .str nm, .v (.slice none 0 0), .int .i64 (.ofNat i), .int .i64 (.ofNat w), dk]] h Q R := by
  have hdc := Zy hk
  have hdo := ZP hk
  have hVL := hT.h229
  have hFL : ∀ {h : H} {Q : D → H → Prop} {R : Y1}, hget h.mem pr = some (RC (Y7 ds de dt) inp p e0 n) → R (Zfv p 10) h → VC E T 57 [.ptr pr 0, .int .i64 (.ofNat 10)] h Q R := fun a1 a2 => Zpb hT.h57 a1 a2
  obtain ⟨hr, hs, np, ns, ne, hp, he, hn, hl⟩ := at_
  by_cases u9 : u.2 = 99
  · rw [if_neg (by omega), if_pos u9] at hq; exact hq.elim
  have hRK : ∀ {h : H} {Q : D → H → Prop} {R : Y1}, hget h.mem pr = some (RC (Y7 ds de dt) inp p e0 n) → hget h.mem ps = some (Zfz pr env) → pr < h.next → ps < h.next → (u.2 = 0 → ∀ h', h.next ≤ h'.next → (∀ l, l < h.next → hget h'.mem l = hget h.mem l) → Q (.int .u64 (.ofNat u.1)) h') → (u.2 ≠ 0 → ∀ h', h.next ≤ h'.next → (∀ l, l < h.next → hget h'.mem l = hget h.mem l) → R (Zfv p u.2) h') → VC E T 125 [.ptr ps 0, .int .i64 (.ofNat i)] h Q R := fun a1 a2 a3 a4 a5 a6 => Zan hT hu u9 hl a1 a2 a3 a4 a5 a6
  clear hu
  by_cases u0 : u.2 = 0
  case neg =>
    rw [if_neg u0, if_neg u9, ZU] at hq
    have hRE : ∀ {h : H} {Q : D → H → Prop} {R : Y1}, hget h.mem pr = some (RC (Y7 ds de dt) inp p e0 n) → hget h.mem ps = some (Zfz pr env) → pr < h.next → ps < h.next → (∀ h', h.next ≤ h'.next → (∀ l, l < h.next → hget h'.mem l = hget h.mem l) → R (Zfv p u.2) h') → VC E T 125 [.ptr ps 0, .int .i64 (.ofNat i)] h Q R := fun a1 a2 a3 a4 a6 => hRK a1 a2 a3 a4 (fun c => absurd c u0) fun _ => a6
    clear hRK
    clear hT hk hFL
    refine Zp h174 ?_
    unfold Zs
    repeat' (with_reducible (first | refine Za ?_ | refine Zb ?_ | refine Zk ?_ | refine Zj ?_ | refine Zd ?_ | refine Z3 ?_ | refine Zc ?_ | refine Zl ?_ | refine Z9 ?_ | refine Z4 ?_ | refine Ze ?_ | refine hRE ?_ ?_ ?_ ?_ ?_ | simp (maxSteps := 2000000) (disch := first | assumption | omega | (simp only [Z1, Z0, List.length_cons, List.length_nil, List.length_append, List.length_take, List.length_drop]; omega) | fail) only [go_sem, -Int.reduceOfNat, *] | ((first | refine Zn ?_ ?_ | refine Zh ?_ ?_ | refine Zm ?_ ?_ | refine Zf ?_ ?_ | refine Zg ?_ ?_ | refine Z5 ?_ ?_) <;> intro _ <;> (try (exfalso; omega))) | (refine hq _ ?_ ?_) | (rintro h1 n1 f1) | assumption | exact trivial | (show _ < _; omega) | (show _ ≤ _; omega) | (show ¬ (_ : Nat) = _; omega) | (show (_ : Nat) ≠ _; omega) | (show (_ : Nat) = _; omega) | (intro _; intros) | (refine ⟨_, by assumption, ?_⟩) | refine And.intro ?_ ?_))
  rw [if_pos u0] at hq
  have hRO : ∀ {h : H} {Q : D → H → Prop} {R : Y1}, hget h.mem pr = some (RC (Y7 ds de dt) inp p e0 n) → hget h.mem ps = some (Zfz pr env) → pr < h.next → ps < h.next → (∀ h', h.next ≤ h'.next → (∀ l, l < h.next → hget h'.mem l = hget h.mem l) → Q (.int .u64 (.ofNat u.1)) h') → VC E T 125 [.ptr ps 0, .int .i64 (.ofNat i)] h Q R := fun a1 a2 a3 a4 a6 => hRK a1 a2 a3 a4 (fun _ => a6) fun c => absurd u0 c
  clear hRK u9 u0
  generalize u.1 = k at *
  by_cases hs1 : k > 65536
  · rw [if_pos hs1, ZU] at hq
    clear hT hk
    refine Zp h174 ?_
    unfold Zs
    repeat' (with_reducible (first | refine Za ?_ | refine Zb ?_ | refine Zk ?_ | refine Zj ?_ | refine Zd ?_ | refine Z3 ?_ | refine Zc ?_ | refine Zl ?_ | refine Z9 ?_ | refine Z4 ?_ | refine Ze ?_ | refine hRO ?_ ?_ ?_ ?_ ?_ | refine hFL ?_ ?_ | simp (maxSteps := 2000000) (disch := first | assumption | omega | (simp only [Z1, Z0, List.length_cons, List.length_nil, List.length_append, List.length_take, List.length_drop]; omega) | fail) only [go_sem, -Int.reduceOfNat, *, XD] | ((first | refine Zn ?_ ?_ | refine Zh ?_ ?_ | refine Zm ?_ ?_ | refine Zf ?_ ?_ | refine Zg ?_ ?_ | refine Z5 ?_ ?_) <;> intro _ <;> (try (exfalso; omega))) | (refine hq _ ?_ ?_) | (rintro h1 n1 f1) | assumption | exact trivial | (show _ < _; omega) | (show _ ≤ _; omega) | (show ¬ (_ : Nat) = _; omega) | (show (_ : Nat) ≠ _; omega) | (show (_ : Nat) = _; omega) | (intro _; intros) | (refine ⟨_, by assumption, ?_⟩) | refine And.intro ?_ ?_))
  rw [if_neg hs1] at hq
  unfold WY at hq
  by_cases hn1 : n ≥ 1048576
  · rw [if_pos hn1] at hq
    simp only [RO.bind, ZU] at hq
    have hO : Zgq E T ds de dt inp pr e0 n := Ze9 hT (show n = 1048576 by omega)
    clear hT hk
    refine Zp h174 ?_
    unfold Zs
    repeat' (with_reducible (first | refine Za ?_ | refine Zb ?_ | refine Zk ?_ | refine Zj ?_ | refine Zd ?_ | refine Z3 ?_ | refine Zc ?_ | refine Zl ?_ | refine Z9 ?_ | refine Z4 ?_ | refine Ze ?_ | refine hRO ?_ ?_ ?_ ?_ ?_ | refine hO (p := p) ?_ ?_ | simp (maxSteps := 2000000) (disch := first | assumption | omega | (simp only [Z1, Z0, List.length_cons, List.length_nil, List.length_append, List.length_take, List.length_drop]; omega) | fail) only [go_sem, -Int.reduceOfNat, *] | ((first | refine Zn ?_ ?_ | refine Zh ?_ ?_ | refine Zm ?_ ?_ | refine Zf ?_ ?_ | refine Zg ?_ ?_ | refine Z5 ?_ ?_) <;> intro _ <;> (try (exfalso; omega))) | (refine hq _ ?_ ?_) | (rintro h1 n1 f1) | assumption | exact trivial | (show _ < _; omega) | (show _ ≤ _; omega) | (show ¬ (_ : Nat) = _; omega) | (show (_ : Nat) ≠ _; omega) | (show (_ : Nat) = _; omega) | (intro _; intros) | (refine ⟨_, by assumption, ?_⟩) | refine And.intro ?_ ?_))
  rw [if_neg hn1] at hq
  simp only [RO.bind] at hq
  have hO : Zkr E T ds de dt inp pr e0 n := Zhq hT (show n < 1048576 by omega)
  have hKD : ∀ {p n : Nat} {h : H} {Q : D → H → Prop} {R : Y1}, p ≤ e0 → n ≤ 1048576 → hget h.mem pr = some (RC (Y7 ds de dt) inp p e0 n) → hget h.mem ps = some (Zfz pr env) → pr < h.next → ps < h.next → KQ (kind w env p e0 n) (Y7 ds de dt) inp pr e0 h Q R → VC E T 123 [.ptr ps 0, .int .i64 (.ofNat w)] h Q R := fun b1 b2 a1 a2 a3 a4 a5 => ih ⟨a1, a2, a3, a4, ne, b1, he, b2, hl⟩ a5
  have hkl := fun p n hp hn => hke w env p e0 n hp he hn
  clear hT ih hk hke hFL
  generalize hX : Zky (fun p n => kind w env p e0 n) k [] p (n + 1) = X at hq
  have hn2 : n + 1 ≤ 1048576 := by omega
  have hk2 : k ≤ 65536 := by omega
  refine Zp h174 ?_
  unfold Zs
  repeat' (with_reducible (first | refine Za ?_ | refine Zb ?_ | refine Zk ?_ | refine Zj ?_ | refine Zd ?_ | refine Z3 ?_ | refine Zc ?_ | refine Zl ?_ | refine Z9 ?_ | refine Z4 ?_ | refine Ze ?_ | refine hRO ?_ ?_ ?_ ?_ ?_ | refine hO (p := p) ?_ ?_ | simp (maxSteps := 2000000) (disch := first | assumption | omega | (simp only [Z1, Z0, List.length_cons, List.length_nil, List.length_append, List.length_take, List.length_drop]; omega) | fail) only [go_sem, -Int.reduceOfNat, *] | ((first | refine Zn ?_ ?_ | refine Zh ?_ ?_ | refine Zm ?_ ?_ | refine Zf ?_ ?_ | refine Zg ?_ ?_ | refine Z5 ?_ ?_) <;> intro _ <;> (try (exfalso; omega))) | (refine WW (IAr h pr ps k (Y7 ds de dt) inp e0 [.int .i64 (.ofNat 5), .int .i64 (.ofNat size), .v (.bool lit), .str nm, .v (.slice none 0 0), .int .i64 (.ofNat i), .int .i64 (.ofNat w), dk] (fun p n => kind w env p e0 n) X) (n := k) ?_ ?_) | (rintro h1 n1 f1) | (exact ⟨[], UC.nil, Tp.nil, Zui, rfl, hX⟩) | assumption | exact trivial | (show _ < _; omega) | (show _ ≤ _; omega) | (show ¬ (_ : Nat) = _; omega) | (show (_ : Nat) ≠ _; omega) | (show (_ : Nat) = _; omega) | (intro _; intros) | (refine ⟨_, by assumption, ?_⟩) | refine And.intro ?_ ?_))
  all_goals
    clear hRO hO hX
    rintro m t1 h1 ⟨gn, gf, m3, m4, g0, g3, g4, g23, d, g6, j, g24, gj, out, p', n', sl, tp, fr, ol, mr, hp', hn', gX⟩
    by_cases hlt : j < k
    · obtain ⟨m', rfl⟩ : ∃ m', m = m' + 1 := ⟨m - 1, by omega⟩
      rw [Zky] at gX
      have hle := hkl p' n' hp' hn'
      cases hXX : kind w env p' e0 n' with
      | oof => rw [hXX] at gX; simp only [RO.bind] at gX; rw [← gX] at hq; exact hq.elim
      | err a2 b2 =>
        rw [hXX] at gX
        simp only [RO.bind] at gX
        rw [← gX] at hq
        simp only [ZU] at hq
        clear gX hle hkl
        repeat' (with_reducible (first | refine Za ?_ | refine Zb ?_ | refine Zk ?_ | refine Zj ?_ | refine Zd ?_ | refine Z3 ?_ | refine Zc ?_ | refine Zl ?_ | refine Z9 ?_ | refine Z4 ?_ | refine Ze ?_ | refine hKD hp' hn' ?_ ?_ ?_ ?_ ?_ | simp (maxSteps := 2000000) (disch := first | assumption | (show Zeh _ _; exact WR (by assumption) (by omega)) | omega | (simp only [Z1, Z0, List.length_cons, List.length_nil, List.length_append, List.length_take, List.length_drop]; omega) | fail) only [go_sem, -Int.reduceOfNat, *, hXX, ZU] | ((first | refine Zn ?_ ?_ | refine Zh ?_ ?_ | refine Zm ?_ ?_ | refine Zf ?_ ?_ | refine Zg ?_ ?_ | refine Z5 ?_ ?_) <;> intro _ <;> (try (exfalso; omega))) | (refine hq _ ?_ ?_) | (rintro h1 n1 f1) | assumption | exact trivial | (show _ < _; omega) | (show _ ≤ _; omega) | (show ¬ (_ : Nat) = _; omega) | (show (_ : Nat) ≠ _; omega) | (show (_ : Nat) = _; omega) | (intro _; intros) | (refine ⟨_, by assumption, ?_⟩) | refine And.intro ?_ ?_))
      | ok v p2 n2 =>
        rw [hXX] at gX hle
        simp only [RO.bind] at gX
        obtain ⟨hle1, hle2, hle3⟩ := hle
        clear hq hkl
        repeat' (with_reducible (first | refine Za ?_ | refine Zb ?_ | refine Zk ?_ | refine Zj ?_ | refine Zd ?_ | refine Z3 ?_ | refine Zc ?_ | refine Zl ?_ | refine Z9 ?_ | refine Z4 ?_ | refine Ze ?_ | refine hKD hp' hn' ?_ ?_ ?_ ?_ ?_ | refine Zpc (F := Rep) (xs := out) (x := v) sl (Zpe tp2) hrep hrep.four (by omega) on2 (by omega) (by omega) ?_ | simp (maxSteps := 2000000) (disch := first | assumption | (show Zeh _ _; exact WR (by assumption) (by omega)) | omega | (simp only [Z1, Z0, List.length_cons, List.length_nil, List.length_append, List.length_take, List.length_drop]; omega) | fail) only [go_sem, -Int.reduceOfNat, *, hXX, Yx, add_u64] | ((first | refine Zn ?_ ?_ | refine Zh ?_ ?_ | refine Zm ?_ ?_ | refine Zf ?_ ?_ | refine Zg ?_ ?_ | refine Z5 ?_ ?_) <;> intro _ <;> (try (exfalso; omega))) | (refine ⟨m', by omega, ?_⟩) | (rintro h2 a b c d2 hrep nn ff mm; obtain ⟨oa, ob, oc, od⟩ := ZX hrep; have tp2 := Zpd tp fr (by omega) nn ff; have on2 := hrep.one) | (rintro id2 cs2 h3 sl2 tp3 nn3 bn3 ff3 if3; have fr3 := Zle if3 fr (by omega)) | (refine ⟨out ++ [v], sl2, ?_, ?_, gX⟩) | assumption | exact trivial | (show _ < _; omega) | (show _ ≤ _; omega) | (show ¬ (_ : Nat) = _; omega) | (show (_ : Nat) ≠ _; omega) | (show (_ : Nat) = _; omega) | (intro _; intros) | (refine ⟨_, by assumption, ?_⟩) | refine And.intro ?_ ?_))
    · obtain rfl : j = k := by omega
      obtain rfl : m = 0 := by omega
      rw [Zky] at gX
      rw [← gX] at hq
      simp only [Yx] at hq
      have hdc2 := Zy sl
      have hdo2 := ZP sl
      clear gX hkl hKD
      exact Zv0
end
end
section
variable {h : H} {Q : D → H → Prop} {R : Y1}
section
variable {F : XF} {crc : Zkz} {ds de dt : D} {inp : List Nat} {pr ps p e0 n : Nat} {env : Ev} {fp : D} {kind : Nat → Ev → Nat → Nat → Nat → RO V}
abbrev IRe (h : H) (pr ps : Nat) (fp : D) (inp : List Nat) (e0 : Nat) (tc : List D) (g : Nat → Nat → RO V) (X : RO (List V)) (m : Nat) (t1 : Tr D) (h1 : H) : Prop :=
  h.next + 2 ≤ h1.next ∧ (∀ x, x < h.next → x ≠ pr → hget h1.mem x = hget h.mem x) ∧ hget h1.mem h.next = some (.cells 109 tc) ∧ hget h1.mem (h.next + 1) = some (.cells 39 [.int .i64 (.ofNat 0), .int .u64 (.ofNat 0), .str [], .v (.slice none 0 0)]) ∧ Gt 0 t1 = .ptr ps 0 ∧ Gt 3 t1 = .ptr h.next 0 ∧ Gt 4 t1 = .ptr (h.next + 1) 0 ∧ ∃ d, Gt 5 t1 = d ∧ ∃ out p' n', UC Rep 4 d out ∧ Tp h1 39 d out.length ∧ Fr d (h.next + 2) ∧ out.length ≤ p' ∧ hget h1.mem pr = some (RC fp inp p' e0 n') ∧ p' ≤ e0 ∧ n' ≤ 1048576 ∧ Zfn g e0 m out p' n' = X
theorem vc175 (hT : RT E T F ds de dt) (h175 : T 175 = q175) (ih : VK E T inp ds de dt kind) (hke : Zya inp kind) (hL : inp.length ≤ 1000000) {f size w : Nat} {lit : Bool} {nm : List Nat} {ex : Int} {cs : List XC} {dk : D} (hk : UC Zuz 2 dk cs) (at_ : At_ inp pr ps p e0 n env (Y7 ds de dt) h) (hq : KQ ((WY () p n).bind fun _ p n => (Zfn (fun p n => kind w env p e0 n) e0 f [] p n).bind fun l p n => .ok (Z0d l) p n) (Y7 ds de dt) inp pr e0 h Q R) : VC E T 175 [.ptr ps 0, .agg [.int .i64 (.ofNat 6), .int .i64 (.ofNat size), .v (.bool lit), .str nm, .v (.slice none 0 0), .int .i64 ex, .int .i64 (.ofNat w), dk]] h Q R := by
  have hdc := Zy hk
  have hdo := ZP hk
  have hVL := hT.h229
  have hFL : ∀ {p n : Nat} {h : H} {Q : D → H → Prop} {R : Y1}, hget h.mem pr = some (RC (Y7 ds de dt) inp p e0 n) → R (Zfv p 14) h → VC E T 57 [.ptr pr 0, .int .i64 (.ofNat 14)] h Q R := fun a1 a2 => Zpb hT.h57 a1 a2
  obtain ⟨hr, hs, np, ns, ne, hp, he, hn, hl⟩ := at_
  unfold WY at hq
  by_cases hn1 : n ≥ 1048576
  · rw [if_pos hn1] at hq
    simp only [RO.bind, ZU] at hq
    have hO : Zgq E T ds de dt inp pr e0 n := Ze9 hT (show n = 1048576 by omega)
    clear hT hk hFL
    refine Zp h175 ?_
    unfold Zs
    repeat' (with_reducible (first | refine Za ?_ | refine Zb ?_ | refine Zk ?_ | refine Zj ?_ | refine Zd ?_ | refine Z3 ?_ | refine Zc ?_ | refine Zl ?_ | refine Z9 ?_ | refine Z4 ?_ | refine Ze ?_ | refine hO (p := p) ?_ ?_ | simp (maxSteps := 2000000) (disch := first | assumption | omega | (simp only [Z1, Z0, List.length_cons, List.length_nil, List.length_append, List.length_take, List.length_drop]; omega) | fail) only [go_sem, -Int.reduceOfNat, *] | ((first | refine Zn ?_ ?_ | refine Zh ?_ ?_ | refine Zm ?_ ?_ | refine Zf ?_ ?_ | refine Zg ?_ ?_ | refine Z5 ?_ ?_) <;> intro _ <;> (try (exfalso; omega))) | (refine hq _ ?_ ?_) | (rintro h1 n1 f1) | assumption | exact trivial | (show _ < _; omega) | (show _ ≤ _; omega) | (show ¬ (_ : Nat) = _; omega) | (show (_ : Nat) ≠ _; omega) | (show (_ : Nat) = _; omega) | (intro _; intros) | (refine ⟨_, by assumption, ?_⟩) | refine And.intro ?_ ?_))
  rw [if_neg hn1] at hq
  simp only [RO.bind] at hq
  have hO : Zkr E T ds de dt inp pr e0 n := Zhq hT (show n < 1048576 by omega)
  have hKD : ∀ {p n : Nat} {h : H} {Q : D → H → Prop} {R : Y1}, p ≤ e0 → n ≤ 1048576 → hget h.mem pr = some (RC (Y7 ds de dt) inp p e0 n) → hget h.mem ps = some (Zfz pr env) → pr < h.next → ps < h.next → KQ (kind w env p e0 n) (Y7 ds de dt) inp pr e0 h Q R → VC E T 123 [.ptr ps 0, .int .i64 (.ofNat w)] h Q R := fun b1 b2 a1 a2 a3 a4 a5 => ih ⟨a1, a2, a3, a4, ne, b1, he, b2, hl⟩ a5
  have hkl := fun p n hp hn => hke w env p e0 n hp he hn
  clear hT ih hk hke
  generalize hX : Zfn (fun p n => kind w env p e0 n) e0 f [] p (n + 1) = X at hq
  have hn2 : n + 1 ≤ 1048576 := by omega
  refine Zp h175 ?_
  unfold Zs
  repeat' (with_reducible (first | refine Za ?_ | refine Zb ?_ | refine Zk ?_ | refine Zj ?_ | refine Zd ?_ | refine Z3 ?_ | refine Zc ?_ | refine Zl ?_ | refine Z9 ?_ | refine Z4 ?_ | refine Ze ?_ | refine hO (p := p) ?_ ?_ | simp (maxSteps := 2000000) (disch := first | assumption | omega | (simp only [Z1, Z0, List.length_cons, List.length_nil, List.length_append, List.length_take, List.length_drop]; omega) | fail) only [go_sem, -Int.reduceOfNat, *] | ((first | refine Zn ?_ ?_ | refine Zh ?_ ?_ | refine Zm ?_ ?_ | refine Zf ?_ ?_ | refine Zg ?_ ?_ | refine Z5 ?_ ?_) <;> intro _ <;> (try (exfalso; omega))) | (refine WW (IRe h pr ps (Y7 ds de dt) inp e0 [.int .i64 (.ofNat 6), .int .i64 (.ofNat size), .v (.bool lit), .str nm, .v (.slice none 0 0), .int .i64 ex, .int .i64 (.ofNat w), dk] (fun p n => kind w env p e0 n) X) (n := f) ?_ ?_) | (rintro h1 n1 f1) | (exact ⟨[], UC.nil, Tp.nil, Zui, p, by simp, rfl, hp, hX⟩) | assumption | exact trivial | (show _ < _; omega) | (show _ ≤ _; omega) | (show ¬ (_ : Nat) = _; omega) | (show (_ : Nat) ≠ _; omega) | (show (_ : Nat) = _; omega) | (intro _; intros) | (refine ⟨_, by assumption, ?_⟩) | refine And.intro ?_ ?_))
  all_goals
    clear hO hX
    rintro m t1 h1 ⟨gn, gf, m3, m4, g0, g3, g4, d, g5, out, p', n', sl, tp, fr, ol, mr, hp', hn', gX⟩
    cases m with
    | zero => rw [Zfn] at gX; rw [← gX] at hq; exact hq.elim
    | succ m' =>
    rw [Zfn] at gX
    by_cases hlt : p' < e0
    · rw [if_pos hlt] at gX
      have hle := hkl p' n' hp' hn'
      cases hXX : kind w env p' e0 n' with
      | oof => rw [hXX] at gX; simp only [RO.bind] at gX; rw [← gX] at hq; exact hq.elim
      | err a2 b2 =>
        rw [hXX] at gX
        simp only [RO.bind] at gX
        rw [← gX] at hq
        simp only [ZU] at hq
        clear gX hle hkl hFL
        repeat' (with_reducible (first | refine Za ?_ | refine Zb ?_ | refine Zk ?_ | refine Zj ?_ | refine Zd ?_ | refine Z3 ?_ | refine Zc ?_ | refine Zl ?_ | refine Z9 ?_ | refine Z4 ?_ | refine Ze ?_ | refine hKD hp' hn' ?_ ?_ ?_ ?_ ?_ | simp (maxSteps := 2000000) (disch := first | assumption | (show Zeh _ _; exact WR (by assumption) (by omega)) | omega | (simp only [Z1, Z0, List.length_cons, List.length_nil, List.length_append, List.length_take, List.length_drop]; omega) | fail) only [go_sem, -Int.reduceOfNat, *, hXX, ZU] | ((first | refine Zn ?_ ?_ | refine Zh ?_ ?_ | refine Zm ?_ ?_ | refine Zf ?_ ?_ | refine Zg ?_ ?_ | refine Z5 ?_ ?_) <;> intro _ <;> (try (exfalso; omega))) | (refine hq _ ?_ ?_) | (rintro h1 n1 f1) | assumption | exact trivial | (show _ < _; omega) | (show _ ≤ _; omega) | (show ¬ (_ : Nat) = _; omega) | (show (_ : Nat) ≠ _; omega) | (show (_ : Nat) = _; omega) | (intro _; intros) | (refine ⟨_, by assumption, ?_⟩) | refine And.intro ?_ ?_))
      | ok v p2 n2 =>
        rw [hXX] at gX hle
        simp only [RO.bind] at gX
        obtain ⟨hle1, hle2, hle3⟩ := hle
        clear hkl
        by_cases hpp : p2 = p'
        · rw [if_pos hpp] at gX
          rw [← gX] at hq
          simp only [ZU] at hq
          subst hpp
          clear gX
          repeat' (with_reducible (first | refine Za ?_ | refine Zb ?_ | refine Zk ?_ | refine Zj ?_ | refine Zd ?_ | refine Z3 ?_ | refine Zc ?_ | refine Zl ?_ | refine Z9 ?_ | refine Z4 ?_ | refine Ze ?_ | refine hKD hp' hn' ?_ ?_ ?_ ?_ ?_ | refine Zpc (F := Rep) (xs := out) (x := v) sl (Zpe tp2) hrep hrep.four (by omega) on2 (by omega) (by omega) ?_ | refine hFL (p := p2) (n := n2) ?_ ?_ | simp (maxSteps := 2000000) (disch := first | assumption | (show Zeh _ _; exact WR (by assumption) (by omega)) | omega | (simp only [Z1, Z0, List.length_cons, List.length_nil, List.length_append, List.length_take, List.length_drop]; omega) | fail) only [go_sem, -Int.reduceOfNat, *, hXX, Yx] | ((first | refine Zn ?_ ?_ | refine Zh ?_ ?_ | refine Zm ?_ ?_ | refine Zf ?_ ?_ | refine Zg ?_ ?_ | refine Z5 ?_ ?_) <;> intro _ <;> (try (exfalso; omega))) | (refine hq _ ?_ ?_) | (rintro h2 a b c d2 hrep nn ff mm; obtain ⟨oa, ob, oc, od⟩ := ZX hrep; have tp2 := Zpd tp fr (by omega) nn ff; have on2 := hrep.one) | (rintro id2 cs2 h3 sl2 tp3 nn3 bn3 ff3 if3; have fr3 := Zle if3 fr (by omega)) | assumption | exact trivial | (show _ < _; omega) | (show _ ≤ _; omega) | (show ¬ (_ : Nat) = _; omega) | (show (_ : Nat) ≠ _; omega) | (show (_ : Nat) = _; omega) | (intro _; intros) | (refine ⟨_, by assumption, ?_⟩) | refine And.intro ?_ ?_))
        · rw [if_neg hpp] at gX
          clear hq hFL
          repeat' (with_reducible (first | refine Za ?_ | refine Zb ?_ | refine Zk ?_ | refine Zj ?_ | refine Zd ?_ | refine Z3 ?_ | refine Zc ?_ | refine Zl ?_ | refine Z9 ?_ | refine Z4 ?_ | refine Ze ?_ | refine hKD hp' hn' ?_ ?_ ?_ ?_ ?_ | refine Zpc (F := Rep) (xs := out) (x := v) sl (Zpe tp2) hrep hrep.four (by omega) on2 (by omega) (by omega) ?_ | simp (maxSteps := 2000000) (disch := first | assumption | (show Zeh _ _; exact WR (by assumption) (by omega)) | omega | (simp only [Z1, Z0, List.length_cons, List.length_nil, List.length_append, List.length_take, List.length_drop]; omega) | fail) only [go_sem, -Int.reduceOfNat, *, hXX, Yx] | ((first | refine Zn ?_ ?_ | refine Zh ?_ ?_ | refine Zm ?_ ?_ | refine Zf ?_ ?_ | refine Zg ?_ ?_ | refine Z5 ?_ ?_) <;> intro _ <;> (try (exfalso; omega))) | (refine ⟨m', by omega, ?_⟩) | (rintro h2 a b c d2 hrep nn ff mm; obtain ⟨oa, ob, oc, od⟩ := ZX hrep; have tp2 := Zpd tp fr (by omega) nn ff; have on2 := hrep.one) | (rintro id2 cs2 h3 sl2 tp3 nn3 bn3 ff3 if3; have fr3 := Zle if3 fr (by omega)) | (refine ⟨out ++ [v], sl2, ?_, ?_, gX⟩) | (exact ⟨p2, by omega, rfl, hle2, gX⟩) | assumption | exact trivial | (show _ < _; omega) | (show _ ≤ _; omega) | (show ¬ (_ : Nat) = _; omega) | (show (_ : Nat) ≠ _; omega) | (show (_ : Nat) = _; omega) | (intro _; intros) | (refine ⟨_, by assumption, ?_⟩) | refine And.intro ?_ ?_))
    · rw [if_neg hlt] at gX
      rw [← gX] at hq
      simp only [Yx] at hq
      have hdc2 := Zy sl
      have hdo2 := ZP sl
      clear gX hkl hKD hFL
      exact Zv0
end
end
section
variable {h : H} {Q : D → H → Prop} {R : Y1}
section
variable {p : D → Tr D → Tr D} {k : FR} {kd : FD} {recs : List Rec} {t : Tr D} {h : H} {Q : UD} {R : Y1} {g1 g2 g3 : Tr D → D}
def Zt4 (z x k : D) (h : H) : O D := Zdk 1 z (.d x) (.d k) false E ZD (act .nil) h
def Zt3 (m k x : D) (h : H) : O D := Ze3 1 (.d m) (.d k) (.d x) E ZD (act .nil) h
theorem Zlm {z : D} : VD E T (Zu (u2 (fun x k => Zdk 1 z x k false) g1 g2) p kd) recs t h Q R ↔ vD E T (Zt4 (E := E) z (g1 t) (g2 t) h) p kd recs t Q R := VI fun _ => rfl
theorem Zdw : VR E T (fo (u3 (Ze3 1) g1 g2 g3) p k) t h Q R ↔ vO E T (Zt3 (E := E) (g1 t) (g2 t) (g3 t) h) p k t Q R := YH fun _ => rfl
def lkS (o : Option AObj) (z : D) (s : List Nat) (h : H) : O D :=
  match o with
  | some (.map es) => match X0 (.str s) es with
    | some (some d) => .ok d h
    | some none => .ok z h
    | none => .fail "lookup: key"
  | _ => .fail "lookup"
theorem Zjr {l : Nat} {s : List Nat} {z : D} : Zt4 (E := E) z (.map l) (.str s) h = lkS (hget h.mem l) z s h := by
  rw [Yg]
  simp only [Zt4, Zgw, Vh, AAct.eval, U7, cond_true, lkS]
  cases h.mem.get l with
  | none => rfl
  | some o => cases o <;> first | rfl | (rename_i es; simp only []; cases X0 (.str s) es with
    | none => rfl
    | some o => cases o <;> rfl)
def msS (o : Option AObj) (l : Nat) (s : List Nat) (d : D) (h : H) : O D :=
  match o with
  | some (.map es) => match VJ (.str s) d es with
    | some es => .ok ZT (YX h l (.map es))
    | none => .fail "mapUpdate: key"
  | _ => .fail "mapUpdate"
theorem Zch {l : Nat} {s : List Nat} {d : D} : Zt3 (E := E) (.map l) (.str s) d h = msS (hget h.mem l) l s d h := by
  rw [Yg]
  simp only [Zt3, Zgv, Uh, AAct.eval, U7, cond_true, msS, VS]
  cases h.mem.get l with
  | none => rfl
  | some o => cases o <;> rfl
end
def Ztf : Al → List (D × D) → Prop
  | [], es => es = []
  | (s, p, q, v) :: r, es => ∃ a b c d es', es = (.str s, .agg [.int .i64 (.ofNat p), .int .i64 (.ofNat q), a, b, c, d]) :: es' ∧ Rep v [a, b, c, d] ∧ Ztf r es'
abbrev Z6 : D := .agg [.int .i64 (.ofNat 0), .int .i64 (.ofNat 0), .int .i64 (.ofNat 0), .int .u64 (.ofNat 0), .str [], .v (.slice none 0 0)]
theorem Ztf.look {s : List Nat} : ∀ {al : Al} {es : List (D × D)}, Ztf al es → ∃ a b c d, Rep (XY s al).2.2 [a, b, c, d] ∧ ∀ h, lkS (some (.map es)) Z6 s h = .ok (.agg [.int .i64 (.ofNat (XY s al).1), .int .i64 (.ofNat (XY s al).2.1), a, b, c, d]) h
  | [], _, h => by
    cases h
    exact ⟨_, _, _, _, Zf3, fun _ => rfl⟩
  | (x, p, q, v) :: r, _, h => by
    obtain ⟨a, b, c, d, es', rfl, hv, hr⟩ := h
    unfold XY
    by_cases e : x = s
    · subst e
      rw [if_pos rfl]
      exact ⟨a, b, c, d, hv, fun h => by simp only [lkS, X0, XO, Zo6]⟩
    · rw [if_neg e]
      obtain ⟨a', b', c', d', h1, h2⟩ := Ztf.look (s := s) hr
      refine ⟨a', b', c', d', h1, fun h => ?_⟩
      have hb : U5 s x = false := by rw [X5]; exact decide_eq_false fun c => e c.symm
      rw [← h2 h]
      simp only [lkS, X0, XO, hb]
theorem Ztf.set {s : List Nat} {p q : Nat} {v : V} {a b c d : D} (hv : Rep v [a, b, c, d]) : ∀ {al : Al} {es : List (D × D)}, Ztf al es → Zkq s al = false → ∃ es', VJ (.str s) (.agg [.int .i64 (.ofNat p), .int .i64 (.ofNat q), a, b, c, d]) es = some es' ∧ Ztf (al ++ [(s, p, q, v)]) es'
  | [], _, h, _ => by
    cases h
    exact ⟨_, rfl, a, b, c, d, [], rfl, hv, rfl⟩
  | (x, p', q', v') :: r, _, h, hh => by
    obtain ⟨a', b', c', d', es', rfl, hv', hr⟩ := h
    unfold Zkq at hh
    by_cases e : x = s
    · rw [if_pos e] at hh; cases hh
    · rw [if_neg e] at hh
      obtain ⟨es2, h1, h2⟩ := Ztf.set hv hr hh
      have hb : U5 s x = false := by rw [X5]; exact decide_eq_false fun c => e c.symm
      exact ⟨(.str x, .agg [.int .i64 (.ofNat p'), .int .i64 (.ofNat q'), a', b', c', d']) :: es2, by simp only [VJ, XO, hb, h1], a', b', c', d', es2, rfl, hv', h2⟩
theorem Zgx {s : List Nat} {l : Nat} {d : D} {es es' : List (D × D)} (h1 : VJ (.str s) d es = some es') {h : H} : msS (some (.map es)) l s d h = .ok ZT (YX h l (.map es')) := by simp only [msS, h1]
def q89 : Yd := Uz Zs (fun t h => .ok (.tup []) h)
 (Z2 (Z7<|fo (UA 196 (Gt 2)) (St 6)<|Z8)
 (Z2 (Z7<|mM 1 8<|fo (u1 (Zft .not) (Gt 8)) (St 9)<|Z8)
 (Zt (Gt 9) (Z7<|mF 0 6 10<|mL 10 11<|mM 3 12<|fo (YA [(.int .i64 (.ofNat 0)),(.int .i64 (.ofNat 0))] [(0,1,(Gt 11)),(1,1,(Gt 12))]) (St 13)<|fo (u1 (Vf 143) (Gt 13)) (St 14)<|fo (u1 VW (Gt 14)) p0<|Z8) ZJ)))
def q88 : Yd := Uz Zs (fun t h => VU ⟨[.cN 6 4], .skip⟩ (act t) h)
 (Z2 (Z7<|fo (UA 104 (Gt 1)) (St 4)<|fo (ZN 39 [(.int .i64 (.ofNat 0)),(.int .u64 (.ofNat 0)),(.str []),(.v (.slice none 0 0))]) (St 6)<|Z8)
 (Z2 (Z7<|mM 0 8<|mN 8 9<|mF 0 9 10<|mL 10 11<|mN 11 12<|mF 2 12 13<|mL 13 14<|fo (YA [(.int .i64 (.ofNat 0)),(.int .i64 (.ofNat 0)),(.int .i64 (.ofNat 0)),(.int .u64 (.ofNat 0)),(.str []),(.v (.slice none 0 0))] [(0,1,(Gt 14))]) (St 15)<|fo (ZN 196 [(.int .i64 (.ofNat 0)),(.int .i64 (.ofNat 0)),(.int .i64 (.ofNat 0)),(.int .u64 (.ofNat 0)),(.str []),(.v (.slice none 0 0))]) (St 7)<|fo (ZV 6 (Gt 7) (Gt 15)) p0<|Z8)
 (Z2 (Z7<|mM 0 16<|mF 1 4 17<|mL 17 18<|mK 123 [(Gt 16),(Gt 18)] 19<|mF 2 7 20<|fo (ZV 4 (Gt 20) (Gt 19)) p0<|Z8)
 (Z2 (Z7<|mM 0 21<|mN 21 22<|mF 0 22 23<|mL 23 24<|mN 24 25<|mF 2 25 26<|mL 26 27<|mF 1 7 28<|mS 28 (Gt 27)<|Z8)
 (Z2 (Z7<|mM 2 29<|mF 0 4 30<|mL 30 31<|fo (Yy 6 (Gt 7)) (St 32)<|fo (u3 (Ze3 1) (Gt 29) (Gt 31) (Gt 32)) p0<|Z8)
 (Z2 (Z2 (YY<|Zu (ZC (Gt 0)) (St 33)<|Zu (u1 Zo (Gt 33)) (St 34)<|Zu (u1 (ZL 0) (Gt 34)) (St 35)<|Xj 3 [] 1 (Gt 35) (ZO (Gt 35)) (St 36)<|Zu (u1 Zo (Gt 36)) (St 37)<|Zu (u1 (ZL 0) (Gt 37)) (St 38)<|Xj 6 [] 1 (Gt 38) (ZO (Gt 38)) (St 39)<|Zu (u1 Zo (Gt 39)) (St 40)<|Zu (u1 (ZL 3) (Gt 40)) (St 41)<|Xj 9 [] 1 (Gt 41) (ZO (Gt 41)) (St 42)<|Zu (u1 (ZL 1) (Gt 4)) (St 43)<|Xj 11 [0,1,2,3,4,5,6,7,8,9] 1 (Gt 43) (ZO (Gt 43)) (St 44)<|Zu (u2 (Ym 8) (Gt 42) (Gt 44)) (St 45)<|Zu (u1 (ZL 0) (Gt 45)) (St 46)<|Xj 14 [] 1 (Gt 46) (ZO (Gt 46)) (St 47)<|Zu (mQ 106 47 0) (St 48)<|YZ)
 (Zt (Gt 48) (YY<|Zu (ZC (Gt 0)) (St 49)<|Zu (ZC (Gt 0)) (St 50)<|Zu (u1 Zo (Gt 50)) (St 51)<|Zu (u1 (ZL 1) (Gt 51)) (St 52)<|Xj 4 [0] 1 (Gt 52) (ZO (Gt 52)) (St 53)<|Zu (u1 (ZL 0) (Gt 4)) (St 54)<|Xj 6 [0,1,2,3,4] 1 (Gt 54) (ZO (Gt 54)) (St 55)<|Zu (u1 (ZL 2) (Gt 7)) (St 56)<|Zu (u1 (ZL 1) (Gt 56)) (St 57)<|Xj 9 [0,1,2,3,4,5,6] 1 (Gt 57) (ZO (Gt 57)) (St 58)<|Zim 10 [0] (ZW 86 [(Gt 53),(Gt 55),(Gt 58)]) (St 59)<|Zu (u1 Zo (Gt 49)) (St 60)<|Zu (u1 (ZL 1) (Gt 60)) (St 61)<|Zfw 13 [] (ZV 1 (Gt 61) (Gt 59)) p0<|YZ) ZJ))
 (Z2 (Z2 (Z7<|mF 2 4 62<|mL 62 63<|fo (mQ 101 63 3) (St 64)<|mM 64 65<|YG (Gt 65) false (u1 (ZL 2) (Gt 4)) (St 66)<|YG (Gt 65) false (ZO (Gt 66)) (St 67)<|YG (Gt 65) false (mQ 101 67 4) (St 68)<|fo (Xa (Gt 65) (kD (.v (.bool true))) (Gt 68)) (St 69)<|Z8)
 (Zt (Gt 69) (Z7<|mM 0 70<|fo (Yy 9 (Gt 4)) (St 71)<|fo (Yy 6 (Gt 7)) (St 72)<|mM 2 73<|mK 124 [(Gt 70),(Gt 71),(Gt 72),(Gt 73)] 74<|Z8) ZJ))
 (Z2 (Z2 (Z7<|mF 5 4 75<|mL 75 76<|fo (Zq Zc3 .geq 3 (.tmp 76) (.const (.int .i64 (.ofNat 0))) (Gt 76) (kI 0)) (St 77)<|Z8)
 (Zt (Gt 77) (YY<|Zu (ZC (Gt 0)) (St 78)<|Zu (ZC (Gt 0)) (St 79)<|Zu (u1 (ZL 5) (Gt 4)) (St 80)<|Xj 3 [0,1] 1 (Gt 80) (ZO (Gt 80)) (St 81)<|Zfw 4 [0] (ZW 125 [(Gt 79),(Gt 81)]) (St 82)<|Zu (Zq VT .neq 36 (.tmp 82) (.const (.int .u64 (.ofNat 0))) (Gt 82) (kD (.int .u64 (.ofNat 0)))) (St 83)<|Xj 6 [0,1,2,3,4,5] 6 (Gt 7) (Yy 6 (Gt 7)) (St 84)<|Zim 7 [] (ZW 89 [(Gt 78),(Gt 83),(Gt 84),(kI 22)]) (St 85)<|YZ) ZJ))
 (Z2 (Z7<|mF 2 7 86<|fo (Yy 4 (Gt 86)) (St 87)<|fo (ZV 4 (Gt 6) (Gt 87)) p0<|Z8)
 ZF)))))))))
section
variable {F : XF} {crc : Zkz} {ds de dt : D} {inp : List Nat} {pr ps p e0 n : Nat} {env : Ev} {fp : D} {kind : Nat → Ev → Nat → Nat → Nat → RO V}
theorem vc89 (h89 : T 89 = q89) {u : Bool} {er pp qq : Nat} {a b c d : D} (oa : a.one = true ∧ b.one = true ∧ c.one = true ∧ d.one = true) (h1 : u = true → ∀ h', h.next ≤ h'.next → (∀ l, l < h.next → hget h'.mem l = hget h.mem l) → Q (.tup []) h') (h2 : u = false → ∀ h', h.next ≤ h'.next → (∀ l, l < h.next → hget h'.mem l = hget h.mem l) → R (Zfv pp er) h') : VC E T 89 [.ptr ps 0, .v (.bool u), .agg [.int .i64 (.ofNat pp), .int .i64 (.ofNat qq), a, b, c, d], .int .i64 (.ofNat er)] h Q R := by
  obtain ⟨oa, ob, oc, od⟩ := oa
  cases u with
  | true =>
    have hq := h1 rfl
    clear h1 h2
    refine Zp h89 ?_
    unfold Zs
    repeat' (with_reducible (first | refine Za ?_ | refine Zb ?_ | refine Zk ?_ | refine Zj ?_ | refine Zd ?_ | refine Z3 ?_ | refine Zc ?_ | refine Zl ?_ | refine Z9 ?_ | refine Z4 ?_ | refine Ze ?_ | simp (maxSteps := 2000000) (disch := first | assumption | omega | (simp only [Z1, Z0, List.length_cons, List.length_nil, List.length_append, List.length_take, List.length_drop]; omega) | fail) only [go_sem, -Int.reduceOfNat, *] | ((first | refine Zn ?_ ?_ | refine Zh ?_ ?_ | refine Zm ?_ ?_ | refine Zf ?_ ?_ | refine Zg ?_ ?_ | refine Z5 ?_ ?_) <;> intro _ <;> (try (exfalso; omega))) | (show Q _ _; refine hq _ ?_ ?_) | assumption | exact trivial | (show _ < _; omega) | (show _ ≤ _; omega) | (show ¬ (_ : Nat) = _; omega) | (show (_ : Nat) ≠ _; omega) | (show (_ : Nat) = _; omega) | (intro _; intros) | (refine ⟨_, by assumption, ?_⟩) | refine And.intro ?_ ?_))
  | false =>
    have hq := h2 rfl
    clear h1 h2
    refine Zp h89 ?_
    unfold Zs
    repeat' (with_reducible (first | refine Za ?_ | refine Zb ?_ | refine Zk ?_ | refine Zj ?_ | refine Zd ?_ | refine Z3 ?_ | refine Zc ?_ | refine Zl ?_ | refine Z9 ?_ | refine Z4 ?_ | refine Ze ?_ | simp (maxSteps := 2000000) (disch := first | assumption | omega | (simp only [Z1, Z0, List.length_cons, List.length_nil, List.length_append, List.length_take, List.length_drop]; omega) | fail) only [go_sem, -Int.reduceOfNat, *] | ((first | refine Zn ?_ ?_ | refine Zh ?_ ?_ | refine Zm ?_ ?_ | refine Zf ?_ ?_ | refine Zg ?_ ?_ | refine Z5 ?_ ?_) <;> intro _ <;> (try (exfalso; omega))) | (refine hq _ ?_ ?_) | assumption | exact trivial | (show _ < _; omega) | (show _ ≤ _; omega) | (show ¬ (_ : Nat) = _; omega) | (show (_ : Nat) ≠ _; omega) | (show (_ : Nat) = _; omega) | (intro _; intros) | (refine ⟨_, by assumption, ?_⟩) | refine And.intro ?_ ?_))
end
end
end Run
end
end Go.Abs
