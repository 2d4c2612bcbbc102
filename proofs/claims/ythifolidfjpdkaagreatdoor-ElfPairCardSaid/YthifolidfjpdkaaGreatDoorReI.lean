/- Numbers, bytes: walks of the program. -/
import Derived.Test.YthifolidfjpdkaaGreatDoorReH
set_option linter.unusedVariables false
set_option linter.unusedSimpArgs false
namespace Go.Abs
noncomputable section
namespace Run
variable {E : Env} {T : Nat → ZV}
set_option maxHeartbeats 4000000
set_option maxRecDepth 100000
attribute [local go_sem] Zc2 Ud Zc3 Ub Uj Ua Ug Zc1 Uf Ue Zc0 XJ Ul XG Uh WM XH Ym WN UY Un WL Ui Uk Um WO YN WQ Zam Wq Wp Uc Vw Vx Zc5 Zc6 Uo Ut Ur XL XK Yn Uq Up Zc4 WR Uv Us Uu WS Zar Zap Zas Zao Vz Zaq VA Zat Vy VB Zc7 Zau Zc9 Uw Zc8 Zir Zis Zip Ziq Zes Zet UG UF UH UJ UI UK Zdh Zdg V7 V8 V6 Zda VI VJ VH V4 UA XU V1 V3 XV XW UD UC UB XR YX Wg Uy Zdd Zez Zps X0 YZ VE Za8 XX V0 Y0 ZH X2 Ys WI patch Yq Yr YW YV Wc Wb Xj Xk XD V9 Wa X3 Yv YY XY Xt X1 Yp ZN Yt mem_cons Zdf Zdc YT Option.map_some Option.map_none V5 Wx Wz Wy Za9 VG Ww VF YO YP X9 X4 Xa Wd X5 X8 X6 Yw X7 WX XP WZ WU Uz WV WY WW XQ XO YG Wo WH Zgx Zcp Zcy Zbp Zdj Zq7 Xi Xz Va WB Yo YU Yu Y1 ZU YH ZW Xm List.drop_succ_cons List.drop_zero List.drop_nil List.take_succ_cons List.take_zero List.take_nil List.length_cons List.length_nil List.length_append List.cons_append List.nil_append Nat.reduceAdd Nat.reduceEqDiff Nat.reduceLeDiff Nat.reduceLT List.cons.injEq reduceCtorEq eq_self not_true_eq_false not_false_eq_true and_false false_and true_or or_true decide_true decide_false Bool.and_self Bool.and_true Bool.true_and Bool.true_or Bool.or_true Bool.false_or Bool.or_false Bool.false_and Bool.and_false Bool.not_true Bool.not_false cond_true cond_false true_and and_true Zah Zde Zdi reduceIte Nat.add_zero Nat.zero_add Nat.add_sub_cancel Nat.reduceMul Nat.reduceSub Nat.reduceBEq List.map_cons List.map_nil Z8 Z7 Y2 Zi Zb Z9 Ws Zeu Wk ZY ZL Wu Wt XN XM and_assoc exists_and_left D.str.injEq Nat.lt_irrefl Nat.not_lt_zero true_implies false_implies implies_true forall_const ge_iff_le gt_iff_lt Nat.sub_zero List.append_assoc Option.some.injEq AObj.cells.injEq D.int.injEq D.ptr.injEq Int.ofNat.injEq exists_eq_left' D.v.injEq Value.bool.injEq D.agg.injEq Nat.mul_one
section
variable {h : H} {Q : D → H → Prop} {R : ZM}
section
variable {F : XF} {crc : Zm3} {ds de dt : D} {inp : List Nat} {pr ps p e0 n : Nat} {env : Ev} {fp : D}
theorem Zqf (hT : RT E T F ds de dt) {k : Nat} (hp : p ≤ e0) (he : e0 ≤ inp.length) (hl : inp.length ≤ 1048576) (hr : hget h.mem pr = some (RC (Y3 ds de dt) inp p e0 n)) (h1 : e0 - p < k → R (Zhb p 20) h) (h2 : k ≤ e0 - p → Q (.str (sub inp p k)) (YF h pr (RC (Y3 ds de dt) inp (p + k) e0 n))) : VC E T 172 [.ptr pr 0,.int .u64 (.ofNat k)] h Q R := vc172 hT.h57 hT.h172 hp he hl hr rfl h1 h2
theorem Zbv (hT : RT E T F ds de dt) {a : Nat} {u : Nat × Nat} (hu : Zk8 F env (.ofNat a) = u) (h9 : u.2 ≠ 99) (hl : env.length ≤ 1000) (hr : hget h.mem pr = some (RC (Y3 ds de dt) inp p e0 n)) (hs : hget h.mem ps = some (Zhf pr env)) (n1 : pr < h.next) (n2 : ps < h.next)
    (h1 : u.2 = 0 → ∀ h',h.next ≤ h'.next → (∀ l,l < h.next → hget h'.mem l = hget h.mem l) → Q (.int .u64 (.ofNat u.1)) h') (h2 : u.2 ≠ 0 → ∀ h',h.next ≤ h'.next → (∀ l,l < h.next → hget h'.mem l = hget h.mem l) → R (Zhb p u.2) h') : VC E T 125 [.ptr ps 0,.int .i64 (.ofNat a)] h Q R := vc125 hT.et hT.h57 hT.h125 (by omega) hT.lenE hu h9 hr hs n1 n2 h1 h2
abbrev Zmu (E : Env) (T : Nat → ZV) (ds de dt : D) (inp : List Nat) (pr e0 n : Nat) : Prop := ∀ {h : H} {p : Nat} {Q : D → H → Prop} {R : ZM},hget h.mem pr = some (RC (Y3 ds de dt) inp p e0 n) → Q (.tup []) (YF h pr (RC (Y3 ds de dt) inp p e0 (n + 1))) → VC E T 85 [.ptr pr 0] h Q R
abbrev Zh8 (E : Env) (T : Nat → ZV) (ds de dt : D) (inp : List Nat) (pr e0 n : Nat) : Prop := ∀ {h : H} {p : Nat} {Q : D → H → Prop} {R : ZM},hget h.mem pr = some (RC (Y3 ds de dt) inp p e0 n) → R (Zhb p 10) h → VC E T 85 [.ptr pr 0] h Q R
theorem Zji (hT : RT E T F ds de dt) (hn : n < 1048576) : Zmu E T ds de dt inp pr e0 n := fun a1 a2 => Zut hT (by omega) a1 (fun h => absurd h (by omega)) (fun _ => a2)
theorem Zgm (hT : RT E T F ds de dt) (hn : n = 1048576) : Zh8 E T ds de dt inp pr e0 n := fun a1 a2 => Zut hT (by omega) a1 (fun _ => a2) (fun h => absurd h (by omega))
theorem Z4q (hT : RT E T F ds de dt) (hb : ∀ b ∈ inp,b < 256) {a : Nat} {t : XT'} (hx : F.ts[a]? = some t) (hk0 : t.k = 0) (hL : inp.length ≤ 1048576) (at_ : At_ inp pr ps p e0 n env (Y3 ds de dt) h) (hq : KQ (if t.size > e0 - p then .err p 20 else VT (UW (Zmy t.lit (sub inp p t.size))) (p + t.size) n) (Y3 ds de dt) inp pr e0 h Q R) : VC E T 123 [.ptr ps 0,.int .i64 (.ofNat a)] h Q R := by
  have hsz := hT.ints t (List.mem_of_getElem? hx) hk0
  obtain ⟨c,r,hc,hz,hix⟩ := Zba hT hx
  obtain ⟨dk,rfl,hk⟩ := hc
  have hdc := Zm hk
  have hdo := Zs hk
  have htc := Zm hT.rowT
  have hto := Zs hT.rowT
  have hKD := hT.h123
  have hVI := hT.h122
  have hVB := hT.h11
  have at2 := at_
  obtain ⟨hr,hs,np,ns,ne,hp,he,hn,hl⟩ := at_
  have hI : ∀ {h : H} {Q : D → H → Prop} {R : ZM},hget h.mem pr = some (RC (Y3 ds de dt) inp p e0 n) → pr < h.next → (e0 - p < t.size → R (Zhb p 20) h) → (t.size ≤ e0 - p → ∀ h',h.next ≤ h'.next → FRr h h' pr → hget h'.mem pr = some (RC (Y3 ds de dt) inp (p + t.size) e0 n) → Q (.int .u64 (.ofNat (Zmy t.lit (sub inp p t.size)))) h') → VC E T 121 [.ptr pr 0,.int .i64 (.ofNat t.size),.v (.bool t.lit)] h Q R := fun a1 a2 a3 a4 => vc121 hT.h57 hT.h172 hT.h159 hT.h111 hT.h78 hT.h227 hT.h171 hT.h121 hsz hb hp he hL a1 a2 rfl a3 a4
  clear at2 hb
  unfold VT at hq
  by_cases hs1 : t.size > e0 - p
  · rw [if_pos hs1,ZK] at hq
    clear hT hx hk hz hVI hVB
    refine Zd hKD ?_
    unfold Zf
    repeat' (with_reducible (first | refine zc ?_ | refine hI ?_ ?_ ?_ ?_ | simp (maxSteps := 2000000) (disch := first | exact zd | fail) only [go_sem, -Int.reduceOfNat, *,hk0,FRr,Wj] | (refine zb ?_ ?_ <;> intro _) | (refine hq _ ?_ ?_) | (exfalso; omega) | (intro hle) | exact ze | (intro _; intros) | (refine ⟨_,by assumption, ?_⟩) | refine And.intro ?_ ?_))
  rw [if_neg hs1] at hq
  by_cases hn1 : n ≥ 1048576
  · rw [if_pos hn1,ZK] at hq
    have hO : Zh8 E T ds de dt inp pr e0 n := Zgm hT (show n = 1048576 by omega)
    clear hT hx hk hz hVI hVB
    refine Zd hKD ?_
    unfold Zf
    repeat' (with_reducible (first | refine zc ?_ | refine hI ?_ ?_ ?_ ?_ | refine hO (p := p + t.size) ?_ ?_ | simp (maxSteps := 2000000) (disch := first | exact zd | fail) only [go_sem, -Int.reduceOfNat, *,hk0,FRr,Wj] | (refine zb ?_ ?_ <;> intro _) | (refine hq _ ?_ ?_) | (exfalso; omega) | (intro hle) | (rintro h1 n1 f1 m1) | exact ze | (intro _; intros) | (refine ⟨_,by assumption, ?_⟩) | refine And.intro ?_ ?_))
  · rw [if_neg hn1,YI] at hq
    have hO : Zmu E T ds de dt inp pr e0 n := Zji hT (show n < 1048576 by omega)
    clear hT hx hk hz hVB
    refine Zd hKD ?_
    unfold Zf
    repeat' (with_reducible (first | refine zc ?_ | refine hI ?_ ?_ ?_ ?_ | refine hO (p := p + t.size) ?_ ?_ | refine vc122 hVI ?_ | simp (maxSteps := 2000000) (disch := first | exact zd | fail) only [go_sem, -Int.reduceOfNat, *,hk0,FRr,Wj] | (refine zb ?_ ?_ <;> intro _) | (show Q _ _; refine hq _ _ _ _ _ Zhi ?_ ?_ ?_) | (exfalso; omega) | (intro hle) | (rintro h1 n1 f1 m1) | exact ze | (intro _; intros) | (refine ⟨_,by assumption, ?_⟩) | refine And.intro ?_ ?_))
theorem Z03 (hT : RT E T F ds de dt) {a : Nat} {t : XT'} (hx : F.ts[a]? = some t) (hk0 : t.k = 11) (hL : inp.length ≤ 1048576) (at_ : At_ inp pr ps p e0 n env (Y3 ds de dt) h) (hq : KQ (VT Zit p n) (Y3 ds de dt) inp pr e0 h Q R) : VC E T 123 [.ptr ps 0,.int .i64 (.ofNat a)] h Q R := by
  obtain ⟨c,r,hc,hz,hix⟩ := Zba hT hx
  obtain ⟨dk,rfl,hk⟩ := hc
  have hdc := Zm hk
  have hdo := Zs hk
  have htc := Zm hT.rowT
  have hto := Zs hT.rowT
  have hKD := hT.h123
  have hVI := hT.h122
  have hVB := hT.h11
  have at2 := at_
  obtain ⟨hr,hs,np,ns,ne,hp,he,hn,hl⟩ := at_
  unfold VT at hq
  by_cases hn1 : n ≥ 1048576
  · rw [if_pos hn1,ZK] at hq
    have hO : Zh8 E T ds de dt inp pr e0 n := Zgm hT (show n = 1048576 by omega)
    clear hT hx hk hz at2
    refine Zd hKD ?_
    unfold Zf
    repeat' (with_reducible (first | refine zc ?_ | refine hO (p := p) ?_ ?_ | simp (maxSteps := 2000000) (disch := first | exact zd | fail) only [go_sem, -Int.reduceOfNat, *,hk0] | (refine zb ?_ ?_ <;> intro _) | (refine hq _ ?_ ?_) | exact ze | (intro _; intros) | (refine ⟨_,by assumption, ?_⟩) | refine And.intro ?_ ?_))
  · rw [if_neg hn1,YI] at hq
    have hO : Zmu E T ds de dt inp pr e0 n := Zji hT (show n < 1048576 by omega)
    clear hT hx hk hz at2
    refine Zd hKD ?_
    unfold Zf
    repeat' (with_reducible (first | refine zc ?_ | refine hO (p := p) ?_ ?_ | simp (maxSteps := 2000000) (disch := first | exact zd | fail) only [go_sem, -Int.reduceOfNat, *,hk0] | (refine zb ?_ ?_ <;> intro _) | (show Q _ _; refine hq _ _ _ _ _ Zhi ?_ ?_ ?_) | exact ze | (intro _; intros) | (refine ⟨_,by assumption, ?_⟩) | refine And.intro ?_ ?_))
theorem Zxh (hT : RT E T F ds de dt) {a : Nat} {t : XT'} (hx : F.ts[a]? = some t) (hk0 : t.k = 1) (hL : inp.length ≤ 1048576) (at_ : At_ inp pr ps p e0 n env (Y3 ds de dt) h) {i : Nat} (hi : t.ex = .ofNat i) {u : Nat × Nat} (hu : Zk8 F env (.ofNat i) = u) (hq : KQ (if u.2 = 0 then (if u.1 > e0 - p then .err p 20 else VT (mkB (sub inp p u.1)) (p + u.1) n) else if u.2 = 99 then .oof else .err p u.2) (Y3 ds de dt) inp pr e0 h Q R) : VC E T 123 [.ptr ps 0,.int .i64 (.ofNat a)] h Q R := by
  obtain ⟨c,r,hc,hz,hix⟩ := Zba hT hx
  obtain ⟨dk,rfl,hk⟩ := hc
  have hdc := Zm hk
  have hdo := Zs hk
  have htc := Zm hT.rowT
  have hto := Zs hT.rowT
  have hKD := hT.h123
  have hVI := hT.h122
  have hVB := hT.h11
  have at2 := at_
  obtain ⟨hr,hs,np,ns,ne,hp,he,hn,hl⟩ := at_
  by_cases u9 : u.2 = 99
  · rw [if_neg (by omega),if_pos u9] at hq; exact hq.elim
  have hRK : ∀ {h : H} {Q : D → H → Prop} {R : ZM},hget h.mem pr = some (RC (Y3 ds de dt) inp p e0 n) → hget h.mem ps = some (Zhf pr env) → pr < h.next → ps < h.next → (u.2 = 0 → ∀ h',h.next ≤ h'.next → (∀ l,l < h.next → hget h'.mem l = hget h.mem l) → Q (.int .u64 (.ofNat u.1)) h') → (u.2 ≠ 0 → ∀ h',h.next ≤ h'.next → (∀ l,l < h.next → hget h'.mem l = hget h.mem l) → R (Zhb p u.2) h') → VC E T 125 [.ptr ps 0,.int .i64 (.ofNat i)] h Q R := fun a1 a2 a3 a4 a5 a6 => Zbv hT hu u9 hl a1 a2 a3 a4 a5 a6
  clear hu
  by_cases u0 : u.2 = 0
  case neg =>
    rw [if_neg u0,if_neg u9,ZK] at hq
    have hRE : ∀ {h : H} {Q : D → H → Prop} {R : ZM},hget h.mem pr = some (RC (Y3 ds de dt) inp p e0 n) → hget h.mem ps = some (Zhf pr env) → pr < h.next → ps < h.next → (∀ h',h.next ≤ h'.next → (∀ l,l < h.next → hget h'.mem l = hget h.mem l) → R (Zhb p u.2) h') → VC E T 125 [.ptr ps 0,.int .i64 (.ofNat i)] h Q R := fun a1 a2 a3 a4 a6 => hRK a1 a2 a3 a4 (fun c => absurd c u0) fun _ => a6
    clear hRK at2
    clear hT hx hk hz
    refine Zd hKD ?_
    unfold Zf
    repeat' (with_reducible (first | refine zc ?_ | refine hRE ?_ ?_ ?_ ?_ ?_ | simp (maxSteps := 2000000) (disch := first | exact zd | fail) only [go_sem, -Int.reduceOfNat, *,hk0,hi] | (refine zb ?_ ?_ <;> intro _) | (refine hq _ ?_ ?_) | (rintro h1 n1 f1) | exact ze | (intro _; intros) | (refine ⟨_,by assumption, ?_⟩) | refine And.intro ?_ ?_))
  rw [if_pos u0] at hq
  have hRO : ∀ {h : H} {Q : D → H → Prop} {R : ZM},hget h.mem pr = some (RC (Y3 ds de dt) inp p e0 n) → hget h.mem ps = some (Zhf pr env) → pr < h.next → ps < h.next → (∀ h',h.next ≤ h'.next → (∀ l,l < h.next → hget h'.mem l = hget h.mem l) → Q (.int .u64 (.ofNat u.1)) h') → VC E T 125 [.ptr ps 0,.int .i64 (.ofNat i)] h Q R := fun a1 a2 a3 a4 a6 => hRK a1 a2 a3 a4 (fun _ => a6) fun c => absurd u0 c
  clear hRK u9 u0
  have hTK : ∀ {h : H} {Q : D → H → Prop} {R : ZM},hget h.mem pr = some (RC (Y3 ds de dt) inp p e0 n) → (e0 - p < u.1 → R (Zhb p 20) h) → (u.1 ≤ e0 - p → Q (.str (sub inp p u.1)) (YF h pr (RC (Y3 ds de dt) inp (p + u.1) e0 n))) → VC E T 172 [.ptr pr 0,.int .u64 (.ofNat u.1)] h Q R := fun a1 a2 a3 => Zqf hT hp he hL a1 a2 a3
  clear at2
  unfold VT at hq
  by_cases hs1 : u.1 > e0 - p
  · rw [if_pos hs1,ZK] at hq
    clear hT hx hk hz hVI hVB
    refine Zd hKD ?_
    unfold Zf
    repeat' (with_reducible (first | refine zc ?_ | refine hRO ?_ ?_ ?_ ?_ ?_ | refine hTK ?_ ?_ ?_ | simp (maxSteps := 2000000) (disch := first | exact zd | fail) only [go_sem, -Int.reduceOfNat, *,hk0,hi] | (refine zb ?_ ?_ <;> intro _) | (refine hq _ ?_ ?_) | (exfalso; omega) | (rintro h1 n1 f1) | (intro hle) | exact ze | (intro _; intros) | (refine ⟨_,by assumption, ?_⟩) | refine And.intro ?_ ?_))
  rw [if_neg hs1] at hq
  by_cases hn1 : n ≥ 1048576
  · rw [if_pos hn1,ZK] at hq
    have hO : Zh8 E T ds de dt inp pr e0 n := Zgm hT (show n = 1048576 by omega)
    clear hT hx hk hz hVI hVB
    refine Zd hKD ?_
    unfold Zf
    repeat' (with_reducible (first | refine zc ?_ | refine hRO ?_ ?_ ?_ ?_ ?_ | refine hTK ?_ ?_ ?_ | refine hO (p := p + u.1) ?_ ?_ | simp (maxSteps := 2000000) (disch := first | exact zd | fail) only [go_sem, -Int.reduceOfNat, *,hk0,hi] | (refine zb ?_ ?_ <;> intro _) | (refine hq _ ?_ ?_) | (exfalso; omega) | (rintro h1 n1 f1) | (intro hle) | exact ze | (intro _; intros) | (refine ⟨_,by assumption, ?_⟩) | refine And.intro ?_ ?_))
  · rw [if_neg hn1,YI] at hq
    have hO : Zmu E T ds de dt inp pr e0 n := Zji hT (show n < 1048576 by omega)
    clear hT hx hk hz hVI
    refine Zd hKD ?_
    unfold Zf
    repeat' (with_reducible (first | refine zc ?_ | refine hRO ?_ ?_ ?_ ?_ ?_ | refine hTK ?_ ?_ ?_ | refine hO (p := p + u.1) ?_ ?_ | refine vc11 hVB ?_ | simp (maxSteps := 2000000) (disch := first | exact zd | fail) only [go_sem, -Int.reduceOfNat, *,hk0,hi] | (refine zb ?_ ?_ <;> intro _) | (show Q _ _; refine hq _ _ _ _ _ Zhi ?_ ?_ ?_) | (exfalso; omega) | (rintro h1 n1 f1) | (intro hle) | exact ze | (intro _; intros) | (refine ⟨_,by assumption, ?_⟩) | refine And.intro ?_ ?_))
end
end
section
variable {h : H} {Q : D → H → Prop} {R : ZM}
section
variable {F : XF} {crc : Zm3} {ds de dt : D} {inp : List Nat} {pr ps p e0 n : Nat} {env : Ev} {fp : D} {kind : Nat → Ev → Nat → Nat → Nat → RO V}
def Z3u (kind : Nat → Ev → Nat → Nat → Nat → RO V) (k : Nat) (cs : List XC) (inn : Int) (env : Ev) (p e n : Nat) : RO V :=
  match Zmq k cs with
  | some c => kind c env p e n
  | none => match inn with
    | .ofNat i => kind i env p e n
    | _ => .err p 24
abbrev ICh (h : H) (ps u1 : Nat) (dk : D) (tc : List D) (cs : List XC) (m : Nat) (t1 : Tr D) (h1 : H) : Prop :=
  h.next + 2 ≤ h1.next ∧ (∀ x,x < h.next → hget h1.mem x = hget h.mem x) ∧ hget h1.mem h.next = some (.cells 109 tc) ∧ hget h1.mem (h.next + 1) = some (.cells 39 [.int .i64 (.ofNat 0),.int .u64 (.ofNat 0),.str [],.v (.slice none 0 0)]) ∧ Gt 0 t1 = .ptr ps 0 ∧ Gt 3 t1 = .ptr h.next 0 ∧ Gt 4 t1 = .ptr (h.next + 1) 0 ∧ Gt 5 t1 = .int .u64 (.ofNat u1) ∧ Gt 13 t1 = dk ∧ Gt 14 t1 = .int .i64 (.ofNat cs.length) ∧ ∃ j,Gt 15 t1 = .int .i64 (.ofNat j) ∧ j + m = cs.length ∧ Zmq u1 (cs.drop j) = Zmq u1 cs
theorem Zgq {j : Nat} : iLt (.negSucc j) (.ofNat 0) = true := by
  have : (Int.negSucc j) < Int.ofNat 0 := Int.negSucc_lt_zero j
  simp only [iLt]
  exact decide_eq_true this
theorem vc178 (hT : RT E T F ds de dt) (ih : VK E T inp ds de dt kind) {size i : Nat} {lit : Bool} {nm : List Nat} {inn : Int} {cs : List XC} {dk : D} (hk : Zaj Zx5 2 dk cs) (hcl : cs.length ≤ 1000000) (at_ : At_ inp pr ps p e0 n env (Y3 ds de dt) h) {u : Nat × Nat} (hu : Zk8 F env (.ofNat i) = u) (hq : KQ (if u.2 = 0 then Z3u kind u.1 cs inn env p e0 n else if u.2 = 99 then .oof else .err p u.2) (Y3 ds de dt) inp pr e0 h Q R) : VC E T 178 [.ptr ps 0,.agg [.int .i64 (.ofNat 9),.int .i64 (.ofNat size),.v (.bool lit),.str nm,.v (.slice none 0 0),.int .i64 (.ofNat i),.int .i64 inn,dk]] h Q R := by
  have hCH := hT.h178
  have hdc := Zm hk
  have hdo := Zs hk
  have hln := hk.len
  have hFL : ∀ {h : H} {Q : D → H → Prop} {R : ZM},hget h.mem pr = some (RC (Y3 ds de dt) inp p e0 n) → R (Zhb p 24) h → VC E T 57 [.ptr pr 0,.int .i64 (.ofNat 24)] h Q R := fun a1 a2 => Zrx hT.h57 a1 a2
  obtain ⟨hr,hs,np,ns,ne,hp,he,hn,hl⟩ := at_
  by_cases u9 : u.2 = 99
  · rw [if_neg (by omega),if_pos u9] at hq; exact hq.elim
  have hRK : ∀ {h : H} {Q : D → H → Prop} {R : ZM},hget h.mem pr = some (RC (Y3 ds de dt) inp p e0 n) → hget h.mem ps = some (Zhf pr env) → pr < h.next → ps < h.next → (u.2 = 0 → ∀ h',h.next ≤ h'.next → (∀ l,l < h.next → hget h'.mem l = hget h.mem l) → Q (.int .u64 (.ofNat u.1)) h') → (u.2 ≠ 0 → ∀ h',h.next ≤ h'.next → (∀ l,l < h.next → hget h'.mem l = hget h.mem l) → R (Zhb p u.2) h') → VC E T 125 [.ptr ps 0,.int .i64 (.ofNat i)] h Q R := fun a1 a2 a3 a4 a5 a6 => Zbv hT hu u9 hl a1 a2 a3 a4 a5 a6
  clear hu
  by_cases u0 : u.2 = 0
  case neg =>
    rw [if_neg u0,if_neg u9,ZK] at hq
    have hRE : ∀ {h : H} {Q : D → H → Prop} {R : ZM},hget h.mem pr = some (RC (Y3 ds de dt) inp p e0 n) → hget h.mem ps = some (Zhf pr env) → pr < h.next → ps < h.next → (∀ h',h.next ≤ h'.next → (∀ l,l < h.next → hget h'.mem l = hget h.mem l) → R (Zhb p u.2) h') → VC E T 125 [.ptr ps 0,.int .i64 (.ofNat i)] h Q R := fun a1 a2 a3 a4 a6 => hRK a1 a2 a3 a4 (fun c => absurd c u0) fun _ => a6
    clear hRK
    clear hT hk hFL
    refine Zd hCH ?_
    unfold Zf
    repeat' (with_reducible (first | refine zc ?_ | refine hRE ?_ ?_ ?_ ?_ ?_ | simp (maxSteps := 2000000) (disch := first | exact zd | fail) only [go_sem, -Int.reduceOfNat, *] | (refine zb ?_ ?_ <;> intro _) | (refine hq _ ?_ ?_) | (rintro h1 n1 f1) | exact ze | (intro _; intros) | (refine ⟨_,by assumption, ?_⟩) | refine And.intro ?_ ?_))
  rw [if_pos u0] at hq
  have hRO : ∀ {h : H} {Q : D → H → Prop} {R : ZM},hget h.mem pr = some (RC (Y3 ds de dt) inp p e0 n) → hget h.mem ps = some (Zhf pr env) → pr < h.next → ps < h.next → (∀ h',h.next ≤ h'.next → (∀ l,l < h.next → hget h'.mem l = hget h.mem l) → Q (.int .u64 (.ofNat u.1)) h') → VC E T 125 [.ptr ps 0,.int .i64 (.ofNat i)] h Q R := fun a1 a2 a3 a4 a6 => hRK a1 a2 a3 a4 (fun _ => a6) fun c => absurd u0 c
  clear hRK u9 u0
  have hKD : ∀ {c : Nat} {h : H} {Q : D → H → Prop} {R : ZM},hget h.mem pr = some (RC (Y3 ds de dt) inp p e0 n) → hget h.mem ps = some (Zhf pr env) → pr < h.next → ps < h.next → KQ (kind c env p e0 n) (Y3 ds de dt) inp pr e0 h Q R → VC E T 123 [.ptr ps 0,.int .i64 (.ofNat c)] h Q R := fun a1 a2 a3 a4 a5 => ih ⟨a1,a2,a3,a4,ne,hp,he,hn,hl⟩ a5
  have hel := fun j x hx => Zcg (i := j) (x := x) hk (by decide) hx
  clear hT ih hk
  generalize hX : Z3u kind u.1 cs inn env p e0 n = X at hq
  unfold Z3u at hX
  generalize u.1 = u1 at *
  refine Zd hCH ?_
  unfold Zf
  repeat' (with_reducible (first | refine zc ?_ | refine hRO ?_ ?_ ?_ ?_ ?_ | simp (maxSteps := 2000000) (disch := first | exact zd | fail) only [go_sem, -Int.reduceOfNat, *,List.drop_zero] | (refine zb ?_ ?_ <;> intro _) | (refine Vp (ICh h ps u1 dk [.int .i64 (.ofNat 9),.int .i64 (.ofNat size),.v (.bool lit),.str nm,.v (.slice none 0 0),.int .i64 (.ofNat i),.int .i64 inn,dk] cs) (n := cs.length) ?_ ?_) | (rintro h1 n1 f1) | exact ze | (intro _; intros) | (refine ⟨_,by assumption, ?_⟩) | refine And.intro ?_ ?_))
  all_goals
    clear hRO
    rintro m t1 h1 ⟨gn,gf,m3,m4,g0,g3,g4,g5,g13,g14,j,g15,gj,gc⟩
    by_cases hlt : j < cs.length
    · obtain ⟨x,hx⟩ : ∃ x,cs[j]? = some x := ⟨_,List.getElem?_eq_getElem hlt⟩
      obtain ⟨c,r,hc,hz,hix⟩ := hel j x hx
      unfold Zx5 at hc
      subst hc
      have hd : cs.drop j = x :: cs.drop (j + 1) := by rw [List.drop_eq_getElem_cons hlt]; rw [List.getElem?_eq_getElem hlt] at hx; rw [Option.some.inj hx]
      rw [hd,Zmq] at gc
      clear hel hz hx hd
      by_cases e : x.n = u1
      · rw [if_pos e] at gc
        rw [← gc] at hX
        simp only [] at hX
        subst hX
        clear gc hFL
        cases hXX : kind x.ty env p e0 n with
        | oof => rw [hXX] at hq; exact hq.elim
        | ok v p' n' =>
          rw [hXX,YI] at hq
          repeat' (with_reducible (first | refine zc ?_ | refine hKD ?_ ?_ ?_ ?_ ?_ | simp (maxSteps := 2000000) (disch := first | exact zd | fail) only [go_sem, -Int.reduceOfNat, *,hXX,YI] | (refine zb ?_ ?_ <;> intro _) | (show Q _ _; refine hq _ _ _ _ _ hrep ?_ ?_ ?_) | (rintro h1 a b c d hrep n1 f1 m1; obtain ⟨oa,ob,oc,od⟩ := ZT hrep) | exact ze | (intro _; intros) | (refine ⟨_,by assumption, ?_⟩) | refine And.intro ?_ ?_))
        | err p' e' =>
          rw [hXX,ZK] at hq
          repeat' (with_reducible (first | refine zc ?_ | refine hKD ?_ ?_ ?_ ?_ ?_ | simp (maxSteps := 2000000) (disch := first | exact zd | fail) only [go_sem, -Int.reduceOfNat, *,hXX,ZK] | (refine zb ?_ ?_ <;> intro _) | (refine hq _ ?_ ?_) | (rintro h1 n1 f1) | exact ze | (intro _; intros) | (refine ⟨_,by assumption, ?_⟩) | refine And.intro ?_ ?_))
      · rw [if_neg e] at gc
        clear hX hKD hFL hq
        repeat' (with_reducible (first | refine zc ?_ | simp (maxSteps := 2000000) (disch := first | exact zd | fail) only [go_sem, -Int.reduceOfNat, *] | (refine zb ?_ ?_ <;> intro _) | (refine ⟨m - 1,by omega, ?_⟩) | exact ze | (intro _; intros) | (refine ⟨_,by assumption, ?_⟩) | refine And.intro ?_ ?_))
    · obtain rfl : j = cs.length := by omega
      rw [List.drop_length,Zmq] at gc
      rw [← gc] at hX
      simp only [] at hX
      clear hel gc
      cases inn with
      | ofNat k =>
        simp only [] at hX
        subst hX
        clear hFL
        cases hXX : kind k env p e0 n with
        | oof => rw [hXX] at hq; exact hq.elim
        | ok v p' n' =>
          rw [hXX,YI] at hq
          repeat' (with_reducible (first | refine zc ?_ | refine hKD ?_ ?_ ?_ ?_ ?_ | simp (maxSteps := 2000000) (disch := first | exact zd | fail) only [go_sem, -Int.reduceOfNat, *,hXX,YI] | (refine zb ?_ ?_ <;> intro _) | (show Q _ _; refine hq _ _ _ _ _ hrep ?_ ?_ ?_) | (rintro h1 a b c d hrep n1 f1 m1; obtain ⟨oa,ob,oc,od⟩ := ZT hrep) | exact ze | (intro _; intros) | (refine ⟨_,by assumption, ?_⟩) | refine And.intro ?_ ?_))
        | err p' e' =>
          rw [hXX,ZK] at hq
          repeat' (with_reducible (first | refine zc ?_ | refine hKD ?_ ?_ ?_ ?_ ?_ | simp (maxSteps := 2000000) (disch := first | exact zd | fail) only [go_sem, -Int.reduceOfNat, *,hXX,ZK] | (refine zb ?_ ?_ <;> intro _) | (refine hq _ ?_ ?_) | (rintro h1 n1 f1) | exact ze | (intro _; intros) | (refine ⟨_,by assumption, ?_⟩) | refine And.intro ?_ ?_))
      | negSucc k =>
        simp only [] at hX
        rw [← hX,ZK] at hq
        clear hKD hX
        repeat' (with_reducible (first | refine zc ?_ | refine hFL ?_ ?_ | simp (maxSteps := 2000000) (disch := first | exact zd | fail) only [go_sem, -Int.reduceOfNat, *,Zgq] | (refine zb ?_ ?_ <;> intro _) | (refine hq _ ?_ ?_) | exact ze | (intro _; intros) | (refine ⟨_,by assumption, ?_⟩) | refine And.intro ?_ ?_))
end
end
section
variable {h : H} {Q : D → H → Prop} {R : ZM}
section
variable {a : FC} {t : Tr D} {h : H} {Q : UU} {R : ZM}
theorem Znk {i j k id : Nat} {ty : TypeId} {ox oy : Operand} (h1 : Gt i t = .int .i64 (.ofNat 0)) (h2 : Gt j t = .int .i64 (.ofNat 0)) (hq : Q (.exit id) (St k (.v (.bool false)) t) h) : VP E T (Xy (Z0 (Z1 (fo (Za WH .lss ty ox oy (Gt i) (Gt j)) (St k) Z2)) (Z0 (Zg (Gt k) Zx (Vi id)) a))) t h Q R := by
  refine Zan ?_
  repeat' (with_reducible (first | refine zc ?_ | simp (maxSteps := 2000000) (disch := first | exact zd | fail) only [go_sem, -Int.reduceOfNat, *] | (refine zb ?_ ?_ <;> intro _) | (show Q _ _; exact hq) | exact ze | (intro _; intros) | (refine ⟨_,by assumption, ?_⟩) | refine And.intro ?_ ?_))
end
end
section
variable {h : H} {Q : D → H → Prop} {R : ZM}
section
variable {F : XF} {crc : Zm3} {ds de dt : D} {inp : List Nat} {pr ps p e0 n : Nat} {env : Ev} {fp : D} {kind : Nat → Ev → Nat → Nat → Nat → RO V}
def q177 : ZV := Zbg Zf (fun t h => UP ⟨[.cN 4 4],.skip⟩ (act t) h)
 (Z0 (Z1<|fo (Zai 109 (Gt 1)) (St 3)<|fo (Zo 39 [(.int .i64 (.ofNat 0)),(.int .u64 (.ofNat 0)),(.str []),(.v (.slice none 0 0))]) (St 4)<|Z2)
 (Z0 (Z1<|mM 0 9<|mF 5 3 10<|mL 10 11<|mK 125 [(Gt 9),(Gt 11)] 12<|mM 12 5<|Z2)
 (Z0 (Z0 (Z1<|mM 5 13<|mM 0 14<|mN 14 15<|mF 0 15 16<|mL 16 17<|mN 17 18<|mF 1 18 19<|mL 19 20<|fo (u1 Vm (Gt 20)) (St 21)<|fo (VM .u64 (Gt 21)) (St 22)<|fo (Za Zcp .gtr 36 (.tmp 13) (.tmp 22) (Gt 13) (Gt 22)) (St 23)<|Z2)
 (Zg (Gt 23) (Z1<|mM 0 24<|mN 24 25<|mF 0 25 26<|mL 26 27<|mK 57 [(Gt 27),(kI 20)] 28<|Z2) Zx))
 (Z0 (Xf<|Ze (Zh (Gt 0)) (St 29)<|Ze (u1 Z4 (Gt 29)) (St 30)<|Ze (u1 (Zt 0) (Gt 30)) (St 31)<|Xw 3 [] 1 (Gt 31) (Zl (Gt 31)) (St 32)<|Ze (u1 Z4 (Gt 32)) (St 33)<|Ze (u1 (Zt 2) (Gt 33)) (St 34)<|Xw 6 [] 1 (Gt 34) (Zl (Gt 34)) (St 35)<|Ze (Zh (Gt 0)) (St 36)<|Ze (u1 Z4 (Gt 36)) (St 37)<|Ze (u1 (Zt 0) (Gt 37)) (St 38)<|Xw 10 [0,1,2,3,4,5,6] 1 (Gt 38) (Zl (Gt 38)) (St 39)<|Ze (u1 Z4 (Gt 39)) (St 40)<|Ze (u1 (Zt 3) (Gt 40)) (St 41)<|Xw 13 [0,1,2,3,4,5,6] 1 (Gt 41) (Zl (Gt 41)) (St 42)<|Ze (Zh (Gt 35)) (St 6)<|Ze (Zh (Gt 42)) (St 7)<|Xg)
 (Z0 (Xf<|Ze (Zh (Gt 0)) (St 43)<|Ze (u1 Z4 (Gt 43)) (St 44)<|Ze (u1 (Zt 0) (Gt 44)) (St 45)<|Xw 3 [] 1 (Gt 45) (Zl (Gt 45)) (St 46)<|Ze (Zh (Gt 0)) (St 47)<|Ze (u1 Z4 (Gt 47)) (St 48)<|Ze (u1 (Zt 0) (Gt 48)) (St 49)<|Xw 7 [0,1,2,3] 1 (Gt 49) (Zl (Gt 49)) (St 50)<|Ze (Zh (Gt 5)) (St 51)<|Ze (VM .i64 (Gt 51)) (St 52)<|Ze (Zh (Gt 0)) (St 53)<|Ze (u1 Z4 (Gt 53)) (St 54)<|Ze (u1 (Zt 0) (Gt 54)) (St 55)<|Xw 13 [0,1,2,3,4,5,6,7,8,9] 1 (Gt 55) (Zl (Gt 55)) (St 56)<|Ze (u1 Z4 (Gt 56)) (St 57)<|Ze (u1 (Zt 1) (Gt 57)) (St 58)<|Xw 16 [0,1,2,3,4,5,6,7,8,9] 1 (Gt 58) (Zl (Gt 58)) (St 59)<|Ze (u1 Vm (Gt 59)) (St 60)<|Ze (u1 Z4 (Gt 46)) (St 61)<|Ze (u1 (Zt 2) (Gt 61)) (St 62)<|Zg8 20 [17] (ZF 1 (Gt 62) (Gt 52)) p0<|Ze (u1 Z4 (Gt 50)) (St 63)<|Ze (u1 (Zt 3) (Gt 63)) (St 64)<|Zg8 23 [] (ZF 1 (Gt 64) (Gt 60)) p0<|Xg)
 (Z0 (Z1<|mM 0 65<|mF 6 3 66<|mL 66 67<|mK 123 [(Gt 65),(Gt 67)] 68<|fo (Zo 39 [(.int .i64 (.ofNat 0)),(.int .u64 (.ofNat 0)),(.str []),(.v (.slice none 0 0))]) (St 8)<|fo (ZF 4 (Gt 8) (Gt 68)) p0<|Z2)
 (Z0 (Xf<|Ze (Zh (Gt 0)) (St 69)<|Ze (u1 Z4 (Gt 69)) (St 70)<|Ze (u1 (Zt 0) (Gt 70)) (St 71)<|Xw 3 [] 1 (Gt 71) (Zl (Gt 71)) (St 72)<|Ze (Zh (Gt 0)) (St 73)<|Ze (u1 Z4 (Gt 73)) (St 74)<|Ze (u1 (Zt 0) (Gt 74)) (St 75)<|Xw 7 [0,1,2,3] 1 (Gt 75) (Zl (Gt 75)) (St 76)<|Ze (Zh (Gt 6)) (St 77)<|Ze (Zh (Gt 7)) (St 78)<|Ze (u1 Z4 (Gt 72)) (St 79)<|Ze (u1 (Zt 2) (Gt 79)) (St 80)<|Zg8 12 [9] (ZF 1 (Gt 80) (Gt 77)) p0<|Ze (u1 Z4 (Gt 76)) (St 81)<|Ze (u1 (Zt 3) (Gt 81)) (St 82)<|Zg8 15 [] (ZF 1 (Gt 82) (Gt 78)) p0<|Xg)
 (Z0 (Z1<|fo (YB 4 (Gt 8)) (St 83)<|fo (ZF 4 (Gt 4) (Gt 83)) p0<|Z2)
 Zv))))))))
theorem vc177 (hT : RT E T F ds de dt) (h177 : T 177 = q177) (ih : VK E T inp ds de dt kind) (hL : inp.length ≤ 1048576) {size i w : Nat} {lit : Bool} {nm : List Nat} {cs : List XC} {dk : D} (hk : Zaj Zx5 2 dk cs) (at_ : At_ inp pr ps p e0 n env (Y3 ds de dt) h) {u : Nat × Nat} (hu : Zk8 F env (.ofNat i) = u) (hq : KQ (if u.2 = 0 then (if u.1 > inp.length then .err p 20 else (kind w env u.1 inp.length n).bind fun v _ n => .ok v p n) else if u.2 = 99 then .oof else .err p u.2) (Y3 ds de dt) inp pr e0 h Q R) : VC E T 177 [.ptr ps 0,.agg [.int .i64 (.ofNat 8),.int .i64 (.ofNat size),.v (.bool lit),.str nm,.v (.slice none 0 0),.int .i64 (.ofNat i),.int .i64 (.ofNat w),dk]] h Q R := by
  have hdc := Zm hk
  have hdo := Zs hk
  have hFL : ∀ {h : H} {Q : D → H → Prop} {R : ZM},hget h.mem pr = some (RC (Y3 ds de dt) inp p e0 n) → R (Zhb p 20) h → VC E T 57 [.ptr pr 0,.int .i64 (.ofNat 20)] h Q R := fun a1 a2 => Zrx hT.h57 a1 a2
  obtain ⟨hr,hs,np,ns,ne,hp,he,hn,hl⟩ := at_
  by_cases u9 : u.2 = 99
  · rw [if_neg (by omega),if_pos u9] at hq; exact hq.elim
  have hRK : ∀ {h : H} {Q : D → H → Prop} {R : ZM},hget h.mem pr = some (RC (Y3 ds de dt) inp p e0 n) → hget h.mem ps = some (Zhf pr env) → pr < h.next → ps < h.next → (u.2 = 0 → ∀ h',h.next ≤ h'.next → (∀ l,l < h.next → hget h'.mem l = hget h.mem l) → Q (.int .u64 (.ofNat u.1)) h') → (u.2 ≠ 0 → ∀ h',h.next ≤ h'.next → (∀ l,l < h.next → hget h'.mem l = hget h.mem l) → R (Zhb p u.2) h') → VC E T 125 [.ptr ps 0,.int .i64 (.ofNat i)] h Q R := fun a1 a2 a3 a4 a5 a6 => Zbv hT hu u9 hl a1 a2 a3 a4 a5 a6
  clear hu
  by_cases u0 : u.2 = 0
  case neg =>
    rw [if_neg u0,if_neg u9,ZK] at hq
    have hRE : ∀ {h : H} {Q : D → H → Prop} {R : ZM},hget h.mem pr = some (RC (Y3 ds de dt) inp p e0 n) → hget h.mem ps = some (Zhf pr env) → pr < h.next → ps < h.next → (∀ h',h.next ≤ h'.next → (∀ l,l < h.next → hget h'.mem l = hget h.mem l) → R (Zhb p u.2) h') → VC E T 125 [.ptr ps 0,.int .i64 (.ofNat i)] h Q R := fun a1 a2 a3 a4 a6 => hRK a1 a2 a3 a4 (fun c => absurd c u0) fun _ => a6
    clear hRK
    clear hT hk hFL
    refine Zd h177 ?_
    unfold Zf
    repeat' (with_reducible (first | refine zc ?_ | refine hRE ?_ ?_ ?_ ?_ ?_ | simp (maxSteps := 2000000) (disch := first | exact zd | fail) only [go_sem, -Int.reduceOfNat, *] | (refine zb ?_ ?_ <;> intro _) | (refine hq _ ?_ ?_) | (rintro h1 n1 f1) | exact ze | (intro _; intros) | (refine ⟨_,by assumption, ?_⟩) | refine And.intro ?_ ?_))
  rw [if_pos u0] at hq
  have hRO : ∀ {h : H} {Q : D → H → Prop} {R : ZM},hget h.mem pr = some (RC (Y3 ds de dt) inp p e0 n) → hget h.mem ps = some (Zhf pr env) → pr < h.next → ps < h.next → (∀ h',h.next ≤ h'.next → (∀ l,l < h.next → hget h'.mem l = hget h.mem l) → Q (.int .u64 (.ofNat u.1)) h') → VC E T 125 [.ptr ps 0,.int .i64 (.ofNat i)] h Q R := fun a1 a2 a3 a4 a6 => hRK a1 a2 a3 a4 (fun _ => a6) fun c => absurd u0 c
  clear hRK u9 u0
  by_cases hs1 : u.1 > inp.length
  · rw [if_pos hs1,ZK] at hq
    clear hT hk
    refine Zd h177 ?_
    unfold Zf
    repeat' (with_reducible (first | refine zc ?_ | refine hRO ?_ ?_ ?_ ?_ ?_ | refine hFL ?_ ?_ | simp (maxSteps := 2000000) (disch := first | exact zd | fail) only [go_sem, -Int.reduceOfNat, *,Wj] | (refine zb ?_ ?_ <;> intro _) | (refine hq _ ?_ ?_) | (rintro h1 n1 f1) | exact ze | (intro _; intros) | (refine ⟨_,by assumption, ?_⟩) | refine And.intro ?_ ?_))
  rw [if_neg hs1] at hq
  have hle : u.1 ≤ inp.length := by omega
  have hKD : ∀ {h : H} {Q : D → H → Prop} {R : ZM},hget h.mem pr = some (RC (Y3 ds de dt) inp u.1 inp.length n) → hget h.mem ps = some (Zhf pr env) → pr < h.next → ps < h.next → KQ (kind w env u.1 inp.length n) (Y3 ds de dt) inp pr inp.length h Q R → VC E T 123 [.ptr ps 0,.int .i64 (.ofNat w)] h Q R := fun a1 a2 a3 a4 a5 => ih ⟨a1,a2,a3,a4,ne,hle,Nat.le_refl _,hn,hl⟩ a5
  clear hT ih hk hFL hs1
  cases hXX : kind w env u.1 inp.length n with
  | oof => rw [hXX] at hq; exact hq.elim
  | ok v p' n' =>
    rw [hXX] at hq
    simp only [RO.bind,YI] at hq
    refine Zd h177 ?_
    unfold Zf
    repeat' (with_reducible (first | refine zc ?_ | refine hRO ?_ ?_ ?_ ?_ ?_ | refine hKD ?_ ?_ ?_ ?_ ?_ | simp (maxSteps := 2000000) (disch := first | exact zd | fail) only [go_sem, -Int.reduceOfNat, *,hXX,YI,Wj,Zf8] | (refine zb ?_ ?_ <;> intro _ <;> (try (exfalso; omega))) | (show Q _ _; refine hq _ _ _ _ _ hrep ?_ ?_ ?_) | (rintro h1 a b c d hrep n1 f1 m1; obtain ⟨oa,ob,oc,od⟩ := ZT hrep) | (rintro h1 n1 f1) | exact ze | (intro _; intros) | (refine ⟨_,by assumption, ?_⟩) | refine And.intro ?_ ?_))
  | err p' e' =>
    rw [hXX] at hq
    simp only [RO.bind,ZK] at hq
    refine Zd h177 ?_
    unfold Zf
    repeat' (with_reducible (first | refine zc ?_ | refine hRO ?_ ?_ ?_ ?_ ?_ | refine hKD ?_ ?_ ?_ ?_ ?_ | simp (maxSteps := 2000000) (disch := first | exact zd | fail) only [go_sem, -Int.reduceOfNat, *,hXX,ZK,Wj,Zf8] | (refine zb ?_ ?_ <;> intro _ <;> (try (exfalso; omega))) | (refine hq _ ?_ ?_) | (rintro h1 n1 f1) | exact ze | (intro _; intros) | (refine ⟨_,by assumption, ?_⟩) | refine And.intro ?_ ?_))
end
end
section
variable {h : H} {Q : D → H → Prop} {R : ZM}
section
variable {F : XF} {crc : Zm3} {ds de dt : D} {inp : List Nat} {pr ps p e0 n : Nat} {env : Ev} {fp : D} {kind : Nat → Ev → Nat → Nat → Nat → RO V}
def q173 : ZV := Zbg Zf (fun t h => UP ⟨[.cN 4 4],.skip⟩ (act t) h)
 (Z0 (Z1<|fo (Zai 109 (Gt 1)) (St 3)<|fo (Zo 39 [(.int .i64 (.ofNat 0)),(.int .u64 (.ofNat 0)),(.str []),(.v (.slice none 0 0))]) (St 4)<|Z2)
 (Z0 (Z1<|mM 0 7<|mN 7 8<|mF 0 8 9<|mL 9 10<|mN 10 11<|mF 2 11 12<|mL 12 13<|mM 13 5<|Z2)
 (Z0 (Xf<|Ze (Zh (Gt 0)) (St 14)<|Ze (u1 Z4 (Gt 14)) (St 15)<|Ze (u1 (Zt 0) (Gt 15)) (St 16)<|Xw 3 [] 1 (Gt 16) (Zl (Gt 16)) (St 17)<|Ze (Zh (Gt 0)) (St 18)<|Ze (u1 (Zt 5) (Gt 3)) (St 19)<|Xw 6 [0,1,2,3,4] 1 (Gt 19) (Zl (Gt 19)) (St 20)<|Zju 7 [0,1,2,3] (Zw 125 [(Gt 18),(Gt 20)]) (St 21)<|Zju 8 [] (Zw 172 [(Gt 17),(Gt 21)]) (St 22)<|Ze (Zh (Gt 22)) (St 6)<|Xg)
 (Z0 (Z0 (Z1<|mF 0 3 23<|mL 23 24<|fo (mQ 106 24 2) (St 25)<|mM 25 26<|Yl (Gt 26) true (Zh (Gt 6)) (St 27)<|Yl (Gt 26) true (Zw 228 [(Gt 27),(kS [0])]) (St 28)<|Yl (Gt 26) true (Za Wo .neq 9 (.tmp 28) (.const (.string ⟨#[]⟩)) (Gt 28) (kS [])) (St 29)<|fo (Yb (Gt 26) (Gt 29) (kD (.v (.bool false)))) (St 30)<|Z2)
 (Zg (Gt 30) (Z0 (Xf<|Ze (Zh (Gt 0)) (St 31)<|Ze (u1 Z4 (Gt 31)) (St 32)<|Ze (u1 (Zt 0) (Gt 32)) (St 33)<|Xw 3 [] 1 (Gt 33) (Zl (Gt 33)) (St 34)<|Ze (Zh (Gt 5)) (St 35)<|Ze (Zh (Gt 6)) (St 36)<|Ze (u1 Vm (Gt 36)) (St 37)<|Ze (Za YS .add 3 (.tmp 35) (.tmp 37) (Gt 35) (Gt 37)) (St 38)<|Ze (Zh (Gt 6)) (St 39)<|Zju 9 [0,1,2,3,4,5,6,7] (Zw 101 [(Gt 39),(kS [0])]) (St 40)<|Ze (u1 Vm (Gt 40)) (St 41)<|Ze (Za Zff .sub 3 (.tmp 38) (.tmp 41) (Gt 38) (Gt 41)) (St 42)<|Ze (u1 Z4 (Gt 34)) (St 43)<|Ze (u1 (Zt 2) (Gt 43)) (St 44)<|Zg8 14 [] (ZF 1 (Gt 44) (Gt 42)) p0<|Xg)
 (Z1<|mM 0 45<|mN 45 46<|mF 0 46 47<|mL 47 48<|mK 57 [(Gt 48),(kI 6)] 49<|Z2)) Zx))
 (Z0 (Z1<|mM 0 50<|mN 50 51<|mF 0 51 52<|mL 52 53<|mK 85 [(Gt 53)] 54<|Z2)
 (Z0 (Z1<|fo (YQ [(.int .i64 (.ofNat 0)),(.int .u64 (.ofNat 0)),(.str []),(.v (.slice none 0 0))] []) (St 55)<|fo (ZF 4 (Gt 4) (Gt 55)) p0<|Z2)
 Zv))))))
theorem offL_0 (l : List Nat) (h : l.all (· == 0) = true) : Zlo 0 l = [] := by
  induction l with
  | nil => rfl
  | cons b r ih =>
    simp only [List.all_cons,Bool.and_eq_true,beq_iff_eq] at h
    rw [h.1]
    exact ih h.2
theorem vc228 (h228 : T 228 = YK Zcj) {s : List Nat} (hs : s.length ≤ 1048576) (h0 : s.all (· == 0) = true) (hq : Q (.str []) h) : VC E T 228 [.str s,.str [0]] h Q R := Zbr h228 (by
  show VO Q R (bif Nat.ble s.length 9223372036854775807 && Nat.blt 0 128 then .ok (.str (Zlo 0 (Zlo 0 s.reverse).reverse)) h else .fail "trim")
  rw [Nat.ble_eq_true_of_le (by omega),offL_0 s.reverse (by rw [List.all_reverse]; exact h0)]
  exact hq)
theorem vc173 (hT : RT E T F ds de dt) (h173 : T 173 = q173) (h228 : T 228 = YK Zcj) (hL : inp.length ≤ 1048576) {k size i : Nat} {lit : Bool} {nm : List Nat} {inn : Int} {cs : List XC} {dk : D} (hk23 : k = 2 ∨ k = 3) (hk : Zaj Zx5 2 dk cs) (at_ : At_ inp pr ps p e0 n env (Y3 ds de dt) h) {u : Nat × Nat} (hu : Zk8 F env (.ofNat i) = u) (hq : KQ (if u.2 = 0 then (if u.1 > e0 - p then .err p 20 else if k = 3 ∨ (sub inp p u.1).all (· == 0) = true then VT Zit (p + u.1) n else .oof) else if u.2 = 99 then .oof else .err p u.2) (Y3 ds de dt) inp pr e0 h Q R) : VC E T 173 [.ptr ps 0,.agg [.int .i64 (.ofNat k),.int .i64 (.ofNat size),.v (.bool lit),.str nm,.v (.slice none 0 0),.int .i64 (.ofNat i),.int .i64 inn,dk]] h Q R := by
  have hdc := Zm hk
  have hdo := Zs hk
  obtain ⟨hr,hs,np,ns,ne,hp,he,hn,hl⟩ := at_
  by_cases u9 : u.2 = 99
  · rw [if_neg (by omega),if_pos u9] at hq; exact hq.elim
  have hRK : ∀ {h : H} {Q : D → H → Prop} {R : ZM},hget h.mem pr = some (RC (Y3 ds de dt) inp p e0 n) → hget h.mem ps = some (Zhf pr env) → pr < h.next → ps < h.next → (u.2 = 0 → ∀ h',h.next ≤ h'.next → (∀ l,l < h.next → hget h'.mem l = hget h.mem l) → Q (.int .u64 (.ofNat u.1)) h') → (u.2 ≠ 0 → ∀ h',h.next ≤ h'.next → (∀ l,l < h.next → hget h'.mem l = hget h.mem l) → R (Zhb p u.2) h') → VC E T 125 [.ptr ps 0,.int .i64 (.ofNat i)] h Q R := fun a1 a2 a3 a4 a5 a6 => Zbv hT hu u9 hl a1 a2 a3 a4 a5 a6
  clear hu
  by_cases u0 : u.2 = 0
  case neg =>
    rw [if_neg u0,if_neg u9,ZK] at hq
    have hRE : ∀ {h : H} {Q : D → H → Prop} {R : ZM},hget h.mem pr = some (RC (Y3 ds de dt) inp p e0 n) → hget h.mem ps = some (Zhf pr env) → pr < h.next → ps < h.next → (∀ h',h.next ≤ h'.next → (∀ l,l < h.next → hget h'.mem l = hget h.mem l) → R (Zhb p u.2) h') → VC E T 125 [.ptr ps 0,.int .i64 (.ofNat i)] h Q R := fun a1 a2 a3 a4 a6 => hRK a1 a2 a3 a4 (fun c => absurd c u0) fun _ => a6
    clear hRK
    clear hT hk
    refine Zd h173 ?_
    unfold Zf
    repeat' (with_reducible (first | refine zc ?_ | refine hRE ?_ ?_ ?_ ?_ ?_ | simp (maxSteps := 2000000) (disch := first | exact zd | fail) only [go_sem, -Int.reduceOfNat, *] | (refine zb ?_ ?_ <;> intro _) | (refine hq _ ?_ ?_) | (rintro h1 n1 f1) | exact ze | (intro _; intros) | (refine ⟨_,by assumption, ?_⟩) | refine And.intro ?_ ?_))
  rw [if_pos u0] at hq
  have hRO : ∀ {h : H} {Q : D → H → Prop} {R : ZM},hget h.mem pr = some (RC (Y3 ds de dt) inp p e0 n) → hget h.mem ps = some (Zhf pr env) → pr < h.next → ps < h.next → (∀ h',h.next ≤ h'.next → (∀ l,l < h.next → hget h'.mem l = hget h.mem l) → Q (.int .u64 (.ofNat u.1)) h') → VC E T 125 [.ptr ps 0,.int .i64 (.ofNat i)] h Q R := fun a1 a2 a3 a4 a6 => hRK a1 a2 a3 a4 (fun _ => a6) fun c => absurd u0 c
  clear hRK u9 u0
  have hTK : ∀ {h : H} {Q : D → H → Prop} {R : ZM},hget h.mem pr = some (RC (Y3 ds de dt) inp p e0 n) → (e0 - p < u.1 → R (Zhb p 20) h) → (u.1 ≤ e0 - p → Q (.str (sub inp p u.1)) (YF h pr (RC (Y3 ds de dt) inp (p + u.1) e0 n))) → VC E T 172 [.ptr pr 0,.int .u64 (.ofNat u.1)] h Q R := fun a1 a2 a3 => Zqf hT hp he hL a1 a2 a3
  have hsl : (sub inp p u.1).length ≤ 1048576 := by unfold sub; rw [List.length_take,List.length_drop]; omega
  unfold VT at hq
  by_cases hs1 : u.1 > e0 - p
  · rw [if_pos hs1,ZK] at hq
    clear hT hk hk23 hsl
    refine Zd h173 ?_
    unfold Zf
    repeat' (with_reducible (first | refine zc ?_ | refine hRO ?_ ?_ ?_ ?_ ?_ | refine hTK ?_ ?_ ?_ | simp (maxSteps := 2000000) (disch := first | exact zd | fail) only [go_sem, -Int.reduceOfNat, *] | (refine zb ?_ ?_ <;> intro _) | (refine hq _ ?_ ?_) | (exfalso; omega) | (rintro h1 n1 f1) | (intro hle) | exact ze | (intro _; intros) | (refine ⟨_,by assumption, ?_⟩) | refine And.intro ?_ ?_))
  rw [if_neg hs1] at hq
  generalize sub inp p u.1 = sb at *
  by_cases hz : k = 3 ∨ sb.all (· == 0) = true
  case neg => rw [if_neg hz] at hq; exact hq.elim
  rw [if_pos hz] at hq
  have hkz : k = 3 ∨ (k = 2 ∧ sb.all (· == 0) = true) := by
    rcases hz with e | e
    · exact .inl e
    · rcases hk23 with e2 | e2
      · exact .inr ⟨e2,e⟩
      · exact .inl e2
  clear hk23 hz
  by_cases hn1 : n ≥ 1048576
  · rw [if_pos hn1,ZK] at hq
    have hO : Zh8 E T ds de dt inp pr e0 n := Zgm hT (show n = 1048576 by omega)
    clear hT hk
    rcases hkz with rfl | ⟨rfl,h0⟩
    all_goals
      refine Zd h173 ?_
      unfold Zf
      repeat' (with_reducible (first | refine zc ?_ | refine hRO ?_ ?_ ?_ ?_ ?_ | refine hTK ?_ ?_ ?_ | refine hO (p := p + u.1) ?_ ?_ | refine vc228 h228 hsl h0 ?_ | simp (maxSteps := 2000000) (disch := first | exact zd | fail) only [go_sem, -Int.reduceOfNat, *] | (refine zb ?_ ?_ <;> intro _) | (refine hq _ ?_ ?_) | (exfalso; omega) | (rintro h1 n1 f1) | (intro hle) | exact ze | (intro _; intros) | (refine ⟨_,by assumption, ?_⟩) | refine And.intro ?_ ?_))
  · rw [if_neg hn1,YI] at hq
    have hO : Zmu E T ds de dt inp pr e0 n := Zji hT (show n < 1048576 by omega)
    clear hT hk
    rcases hkz with rfl | ⟨rfl,h0⟩
    all_goals
      refine Zd h173 ?_
      unfold Zf
      repeat' (with_reducible (first | refine zc ?_ | refine hRO ?_ ?_ ?_ ?_ ?_ | refine hTK ?_ ?_ ?_ | refine hO (p := p + u.1) ?_ ?_ | refine vc228 h228 hsl h0 ?_ | simp (maxSteps := 2000000) (disch := first | exact zd | fail) only [go_sem, -Int.reduceOfNat, *] | (refine zb ?_ ?_ <;> intro _) | (show Q _ _; refine hq _ _ _ _ _ Zhi ?_ ?_ ?_) | (exfalso; omega) | (rintro h1 n1 f1) | (intro hle) | exact ze | (intro _; intros) | (refine ⟨_,by assumption, ?_⟩) | refine And.intro ?_ ?_))
end
end
end Run
end
end Go.Abs
