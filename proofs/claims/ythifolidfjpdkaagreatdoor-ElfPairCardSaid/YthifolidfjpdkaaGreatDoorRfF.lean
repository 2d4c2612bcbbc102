/- A builder of text: rules. -/
import Derived.Test.YthifolidfjpdkaaGreatDoorRfA
import Derived.Test.YthifolidfjpdkaaGreatDoorNdTable
set_option linter.unusedVariables false
set_option linter.unusedSimpArgs false
namespace Go.Abs
noncomputable section
namespace Run
variable {E : Env} {T : Nat → ZV}
set_option maxHeartbeats 4000000
set_option maxRecDepth 100000
theorem Zy7 {G : Prop} (g : G := by
  repeat' (with_reducible (first | refine zc ?_ | simp (maxSteps := 2000000) (disch := first | exact zd | fail) only [go_sem, -Int.reduceOfNat, *,Zdr,YN,Option.map_none,Option.map_some,Zw1,hmd,Zhq,Zm9,Zif] | (refine zb ?_ ?_ <;> intro _ <;> (try (exfalso; omega))) | exact ze | (intro _; intros) | (refine ⟨_,by assumption, ?_⟩) | refine And.intro ?_ ?_))) : G := g
theorem Zy6 {G : Prop} (g : G := by
  repeat' (with_reducible (first | refine zc ?_ | simp (maxSteps := 2000000) (disch := first | exact zd | fail) only [go_sem, -Int.reduceOfNat, *] | (refine zb ?_ ?_ <;> intro _ <;> (try (exfalso; omega))) | (show Q _ _; refine hq _ _ _ ?_ ?_ (by assumption)) | exact ze | (intro _; intros) | (refine ⟨_,by assumption, ?_⟩) | refine And.intro ?_ ?_))) : G := g
attribute [local go_sem] Zc2 Ud Zc3 Ub Uj Ua Ug Zc1 Uf Ue Zc0 XJ Ul XG Uh WM XH Ym WN UY Un WL Ui Uk Um WO YN WQ Zam Wq Wp Uc Vw Vx Zc5 Zc6 Uo Ut Ur XL XK Yn Uq Up Zc4 WR Uv Us Uu WS Zar Zap Zas Zao Vz Zaq VA Zat Vy VB Zc7 Zau Zc9 Uw Zc8 Zir Zis Zip Ziq Zes Zet UG UF UH UJ UI UK Zdh Zdg V7 V8 V6 Zda VI VJ VH V4 UA XU V1 V3 XV XW UD UC UB XR YX Wg Uy Zdd Zez Zps X0 YZ VE Za8 XX V0 Y0 ZH X2 Ys WI patch Yq Yr YW YV Wc Wb Xj Xk XD V9 Wa X3 Yv YY XY Xt X1 Yp ZN Yt mem_cons Zdf Zdc YT Option.map_some Option.map_none V5 Wx Wz Wy Za9 VG Ww VF YO YP X9 X4 Xa Wd X5 X8 X6 Yw X7 WX XP WZ WU Uz WV WY WW XQ XO YG Wo WH Zgx Zcp Zcy Zbp Zdj Zq7 Xi Xz Va WB Yo YU Yu Y1 ZU YH ZW Xm List.drop_succ_cons List.drop_zero List.drop_nil List.take_succ_cons List.take_zero List.take_nil List.length_cons List.length_nil List.length_append List.cons_append List.nil_append Nat.reduceAdd Nat.reduceEqDiff Nat.reduceLeDiff Nat.reduceLT List.cons.injEq reduceCtorEq eq_self not_true_eq_false not_false_eq_true and_false false_and true_or or_true decide_true decide_false Bool.and_self Bool.and_true Bool.true_and Bool.true_or Bool.or_true Bool.false_or Bool.or_false Bool.false_and Bool.and_false Bool.not_true Bool.not_false cond_true cond_false true_and and_true Zah Zde Zdi reduceIte Nat.add_zero Nat.zero_add Nat.add_sub_cancel Nat.reduceMul Nat.reduceSub Nat.reduceBEq List.map_cons List.map_nil Z8 Z7 Y2 Zi Zb Z9 Ws Zeu Wk ZY ZL Wu Wt XN XM and_assoc exists_and_left D.str.injEq Nat.lt_irrefl Nat.not_lt_zero true_implies false_implies implies_true forall_const ge_iff_le gt_iff_lt Nat.sub_zero List.append_assoc Option.some.injEq AObj.cells.injEq D.int.injEq D.ptr.injEq Int.ofNat.injEq exists_eq_left' D.v.injEq Value.bool.injEq D.agg.injEq Nat.mul_one Zja Zp8
section
variable {h : H} {Q : D → H → Prop} {R : ZM}
def q20 : ZV := Zbg Zf (fun t h => .ok (.tup [(Gt 4) t,(Gt 5) t]) h)
 (Z0 (Z1<|fo (Zh (kI 0)) (St 4)<|fo (Zh (kD (.v .nilIface))) (St 5)<|Z2)
 (Z0 (Z1<|mM 0 6<|mK 47 [(Gt 6)] 7<|Z2)
 (Z0 (Z1<|mM 0 8<|mM 0 9<|mN 9 10<|mF 1 10 11<|mL 11 12<|mM 1 13<|fo (u2 (Zoc 5) (Gt 12) (Gt 13)) (St 14)<|mN 8 15<|mF 1 15 16<|mS 16 (Gt 14)<|Z2)
 (Z0 (Z1<|mM 1 17<|fo (u1 Vm (Gt 17)) (St 18)<|mM 18 4<|fo (Zh (kD (.v .nilIface))) (St 5)<|Z2)
 Zv))))
def q22 : ZV := Zbg Zf (fun t h => .ok (Gt 2 t) h)
 (Z0 (Z1<|fo (Zh (kI 0)) (St 2)<|Z2)
 (Z0 (Z1<|mM 0 3<|mN 3 4<|mF 1 4 5<|mL 5 6<|fo (u1 Yy (Gt 6)) (St 7)<|mM 7 2<|Z2)
 Zv))
def Zkg (e : TypeId) (s x : D) (h : H) : O D := UR h e s x
theorem Zh9 {g1 g2 : Tr D → D} {p : D → Tr D → Tr D} {k : FR} {t : Tr D} {h : H} {Q : UU} {R : ZM} {e : TypeId} : VR E T (fo (u2 (Zoc e) g1 g2) p k) t h Q R ↔ vO E T (Zkg e (g1 t) (g2 t) h) p k t Q R := by
  rw [Zli]; exact Xc fun _ => rfl
theorem Zlr {e : TypeId} {b : Nat} {bs : List Nat} (hl : (b :: bs).length ≤ 140737488355328) : Zkg e (.v (.slice none 0 0)) (.str (b :: bs)) h = .ok (.sl h.next (b :: bs).length (Yz (b :: bs))) (Vr h (.tip (b :: bs).length e)) := by
  simp only [List.length_cons] at hl
  simp only [Zkg,UR,List.length_cons,Zbe,Nat.ble_eq_true_of_le hl]
  rfl
theorem Zop {e : TypeId} {b id n : Nat} {bs : List Nat} {cs : List D} (hi : hget h.mem id = some (.tip n e)) (hc : cs.length = n) (hl : n + (b :: bs).length ≤ 140737488355328) : Zkg e (.sl id n cs) (.str (b :: bs)) h = .ok (.sl id (n + (b :: bs).length) (cs ++ Yz (b :: bs))) (YF h id (.tip (n + (b :: bs).length) e)) := by
  unfold Zkg UR
  simp only [UN]
  rw [ZO] at hi
  subst hc
  simp only [List.length_cons] at hl ⊢
  rw [show Nat.beq (bs.length + 1) 0 = false from rfl]
  simp only [hi,cond_false,Nat.beq_refl,Bool.true_and,Nat.ble_eq_true_of_le hl,cond_true]
theorem vc47f (h47 : T 47 = YK (XZ 82)) {l : Nat} {y : D} (hm : hget h.mem l = some (.cells 82 [.v (.pointer none),y])) (hq : Q (.tup []) (YF h l (.cells 82 [.ptr l 0,y]))) : VC E T 47 [.ptr l 0] h Q R := Zbr h47 (by
  rw [ZO] at hm
  unfold XZ
  simp only [hm]
  rw [← UN]
  exact hq)
theorem Zyd (h47 : T 47 = YK (XZ 82)) {l : Nat} {y : D} (hm : hget h.mem l = some (.cells 82 [.ptr l 0,y])) (hq : Q (.tup []) h) : VC E T 47 [.ptr l 0] h Q R := Zbr h47 (by
  rw [ZO] at hm
  unfold XZ
  simp only [hm,Nat.beq_refl]
  exact hq)
def BU (h : H) (l id : Nat) (bs : List Nat) : Prop :=
  (bs = [] ∧ (hget h.mem l = some (.cells 82 [.v (.pointer none),.v (.slice none 0 0)]) ∨ hget h.mem l = some (.cells 82 [.ptr l 0,.v (.slice none 0 0)])) ∧ id = l) ∨
  (hget h.mem l = some (.cells 82 [.ptr l 0,.sl id bs.length (Yz bs)]) ∧ hget h.mem id = some (.tip bs.length 5) ∧ id ≠ l ∧ bs ≠ [])
theorem Zoq {e : TypeId} {x : D} (hx : x = .v (.slice none 0 0) ∨ ∃ id n cs,x = .sl id n cs) : Zkg e x (.str []) h = .ok x h := by
  rcases hx with rfl | ⟨id,n,cs,rfl⟩ <;> rfl
theorem Zx2 {s : List Nat} : (Yz s).length = s.length := List.length_map ..
theorem Zx3 {s u : List Nat} : Yz s ++ Yz u = Yz (s ++ u) := List.map_append.symm
theorem vc22 (h22 : T 22 = q22) {l id : Nat} {bs : List Nat} (hb : BU h l id bs) (hq : Q (.int .i64 (.ofNat bs.length)) h) : VC E T 22 [.ptr l 0] h Q R := by
  rcases hb with ⟨rfl,hb | hb,hi⟩ | ⟨hb,hi,hd,hne⟩
  all_goals
    refine Zd h22 ?_
    unfold Zf
    repeat' (with_reducible (first | refine zc ?_ | simp (maxSteps := 2000000) (disch := first | exact zd | fail) only [go_sem, -Int.reduceOfNat, *] | (refine zb ?_ ?_ <;> intro _ <;> (try (exfalso; omega))) | (show Q _ _; exact hq) | exact ze | (intro _; intros) | (refine ⟨_,by assumption, ?_⟩) | refine And.intro ?_ ?_))
  all_goals exact hq
theorem vc20e (h47 : T 47 = YK (XZ 82)) (h20 : T 20 = q20) {l : Nat} {b : Nat} {u : List Nat} (hu : (b :: u).length ≤ 140737488355328) (hl : l < h.next) (hb : hget h.mem l = some (.cells 82 [.v (.pointer none),.v (.slice none 0 0)]) ∨ hget h.mem l = some (.cells 82 [.ptr l 0,.v (.slice none 0 0)])) (hq : ∀ h',h.next + 1 = h'.next → (∀ j,j < h.next → j ≠ l → hget h'.mem j = hget h.mem j) → BU h' l h.next (b :: u) → Q (.tup [.int .i64 (.ofNat (b :: u).length),.v .nilIface]) h') : VC E T 20 [.ptr l 0,.str (b :: u)] h Q R := by
  rcases hb with hb | hb
  · refine Zd h20 ?_
    unfold Zf
    repeat' (with_reducible (first | refine zc ?_ | refine vc47f h47 (by assumption) ?_ | simp (maxSteps := 2000000) (disch := first | exact zd | fail) only [go_sem, -Int.reduceOfNat, *,Zh9,Zlr,Zop,patch,D.cells,List.drop_succ_cons,List.drop_zero,List.take_succ_cons,List.take_zero] | (refine zb ?_ ?_ <;> intro _ <;> (try (exfalso; omega))) | exact ze | (intro _; intros) | (refine ⟨_,by assumption, ?_⟩) | refine And.intro ?_ ?_))
    refine hq _ rfl (fun j hj hn => ?_) (Or.inr ⟨Zb, ?_,by omega,by simp⟩)
    · rw [Z9 hn,Zi (by first | omega | (simp only [Z7]; omega)),Z9 hn]
    · rw [Z9 (by omega)]; exact YE rfl
  · refine Zd h20 ?_
    unfold Zf
    repeat' (with_reducible (first | refine zc ?_ | refine Zyd h47 (by assumption) ?_ | simp (maxSteps := 2000000) (disch := first | exact zd | fail) only [go_sem, -Int.reduceOfNat, *,Zh9,Zlr,Zop,patch,D.cells,List.drop_succ_cons,List.drop_zero,List.take_succ_cons,List.take_zero] | (refine zb ?_ ?_ <;> intro _ <;> (try (exfalso; omega))) | exact ze | (intro _; intros) | (refine ⟨_,by assumption, ?_⟩) | refine And.intro ?_ ?_))
    refine hq _ rfl (fun j hj hn => ?_) (Or.inr ⟨Zb, ?_,by omega,by simp⟩)
    · rw [Z9 hn,Zi (by first | omega | (simp only [Z7]; omega))]
    · rw [Z9 (by omega)]; exact YE rfl
theorem vc20s (h47 : T 47 = YK (XZ 82)) (h20 : T 20 = q20) {l id n : Nat} {b : Nat} {u bs : List Nat} (hu : n + (b :: u).length ≤ 140737488355328) (hn : bs.length = n) (hb : hget h.mem l = some (.cells 82 [.ptr l 0,.sl id n (Yz bs)])) (hi : hget h.mem id = some (.tip n 5)) (hd : id ≠ l) (hq : ∀ h',h.next = h'.next → (∀ j,j < h.next → j ≠ l → j ≠ id → hget h'.mem j = hget h.mem j) → BU h' l id (bs ++ b :: u) → Q (.tup [.int .i64 (.ofNat (b :: u).length),.v .nilIface]) h') : VC E T 20 [.ptr l 0,.str (b :: u)] h Q R := by
  have hbd : (Yz bs).length = n := by rw [Zx2,hn]
  refine Zd h20 ?_
  unfold Zf
  repeat' (with_reducible (first | refine zc ?_ | refine Zyd h47 (by assumption) ?_ | simp (maxSteps := 2000000) (disch := first | exact zd | fail) only [go_sem, -Int.reduceOfNat, *,Zh9,Zlr,Zop,patch,D.cells,List.drop_succ_cons,List.drop_zero,List.take_succ_cons,List.take_zero] | (refine zb ?_ ?_ <;> intro _ <;> (try (exfalso; omega))) | exact ze | (intro _; intros) | (refine ⟨_,by assumption, ?_⟩) | refine And.intro ?_ ?_))
  refine hq _ rfl (fun j hj h1 h2 => ?_) (Or.inr ⟨?_, ?_,hd,by simp⟩)
  · rw [Z9 h1,Z9 h2]
  · rw [Zb,Zx3,List.length_append,hn]; rfl
  · rw [Z9 hd,Zb,List.length_append,hn]; rfl
theorem vc20n (h47 : T 47 = YK (XZ 82)) (h20 : T 20 = q20) {l id : Nat} {bs : List Nat} (hb : BU h l id bs) (hq : ∀ h',h.next = h'.next → (∀ j,j < h.next → j ≠ l → hget h'.mem j = hget h.mem j) → BU h' l id bs → Q (.tup [.int .i64 (.ofNat 0),.v .nilIface]) h') : VC E T 20 [.ptr l 0,.str []] h Q R := by
  rcases hb with ⟨rfl,hb | hb,hi⟩ | ⟨hb,hi,hd,hne⟩
  · have hA : ∀ hh : H,Zkg 5 (.v (.slice none 0 0)) (.str []) hh = .ok (.v (.slice none 0 0)) hh := fun hh => Zoq (Or.inl rfl)
    refine Zd h20 ?_
    unfold Zf
    repeat' (with_reducible (first | refine zc ?_ | refine vc47f h47 (by assumption) ?_ | simp (maxSteps := 2000000) (disch := first | exact zd | fail) only [go_sem, -Int.reduceOfNat, *,Zh9,patch,D.cells,List.drop_succ_cons,List.drop_zero,List.take_succ_cons,List.take_zero] | (refine zb ?_ ?_ <;> intro _ <;> (try (exfalso; omega))) | exact ze | (intro _; intros) | (refine ⟨_,by assumption, ?_⟩) | refine And.intro ?_ ?_))
    refine hq _ rfl (fun j hj hn => ?_) (Or.inl ⟨rfl,Or.inr Zb,hi⟩)
    rw [Z9 hn,Z9 hn]
  · have hA : ∀ hh : H,Zkg 5 (.v (.slice none 0 0)) (.str []) hh = .ok (.v (.slice none 0 0)) hh := fun hh => Zoq (Or.inl rfl)
    refine Zd h20 ?_
    unfold Zf
    repeat' (with_reducible (first | refine zc ?_ | refine Zyd h47 (by assumption) ?_ | simp (maxSteps := 2000000) (disch := first | exact zd | fail) only [go_sem, -Int.reduceOfNat, *,Zh9,patch,D.cells,List.drop_succ_cons,List.drop_zero,List.take_succ_cons,List.take_zero] | (refine zb ?_ ?_ <;> intro _ <;> (try (exfalso; omega))) | exact ze | (intro _; intros) | (refine ⟨_,by assumption, ?_⟩) | refine And.intro ?_ ?_))
    refine hq _ rfl (fun j hj hn => ?_) (Or.inl ⟨rfl,Or.inr Zb,hi⟩)
    rw [Z9 hn]
  · have hA : ∀ hh : H,Zkg 5 (.sl id bs.length (Yz bs)) (.str []) hh = .ok (.sl id bs.length (Yz bs)) hh := fun hh => Zoq (Or.inr ⟨_,_,_,rfl⟩)
    refine Zd h20 ?_
    unfold Zf
    repeat' (with_reducible (first | refine zc ?_ | refine Zyd h47 (by assumption) ?_ | simp (maxSteps := 2000000) (disch := first | exact zd | fail) only [go_sem, -Int.reduceOfNat, *,Zh9,patch,D.cells,List.drop_succ_cons,List.drop_zero,List.take_succ_cons,List.take_zero] | (refine zb ?_ ?_ <;> intro _ <;> (try (exfalso; omega))) | exact ze | (intro _; intros) | (refine ⟨_,by assumption, ?_⟩) | refine And.intro ?_ ?_))
    refine hq _ rfl (fun j hj hn => ?_) (Or.inr ⟨Zb, ?_,hd,hne⟩)
    · rw [Z9 hn]
    · rw [Z9 hd]; exact hi
theorem vc20 (h47 : T 47 = YK (XZ 82)) (h20 : T 20 = q20) {l id : Nat} {s bs : List Nat} (hu : bs.length + s.length ≤ 140737488355328) (hl : l < h.next) (hid : id < h.next) (hb : BU h l id bs) (hq : ∀ h' id',h.next ≤ h'.next → (id' = id ∨ h.next ≤ id') → id' < h'.next → (∀ j,j < h.next → j ≠ l → j ≠ id → hget h'.mem j = hget h.mem j) → BU h' l id' (bs ++ s) → Q (.tup [.int .i64 (.ofNat s.length),.v .nilIface]) h') : VC E T 20 [.ptr l 0,.str s] h Q R := by
  match s with
  | [] =>
    refine vc20n h47 h20 hb fun h' g1 g2 g3 => hq h' id (by omega) (Or.inl rfl) (by omega) (fun j a b _ => g2 j a b) ?_
    rw [List.append_nil]; exact g3
  | b :: u =>
    rcases hb with ⟨rfl,hb,hi⟩ | ⟨hb,hi,hd,hne⟩
    · exact vc20e h47 h20 (by simpa using hu) hl hb fun h' g1 g2 g3 => hq h' h.next (by omega) (Or.inr (Nat.le_refl _)) (by omega) (fun j a b _ => g2 j a b) g3
    · exact vc20s h47 h20 hu rfl hb hi hd fun h' g1 g2 g3 => hq h' id (by omega) (Or.inl rfl) (by omega) g2 g3
theorem BU.up {h h' : H} {l id : Nat} {bs : List Nat} (hb : BU h l id bs) (h1 : hget h'.mem l = hget h.mem l) (h2 : hget h'.mem id = hget h.mem id) : BU h' l id bs := by
  unfold BU
  rw [h1,h2]
  exact hb
theorem Zl0 : ∀ {l : List Nat},(∀ b ∈ l,b < 256) → Wl (Yz l) = some l
  | [],_ => bo0
  | b :: r,h => ZG (h b (List.mem_cons_self ..)) (Zl0 fun x hx => h x (List.mem_cons_of_mem _ hx))
theorem vc24 (h24 : T 24 = YK (Vo 5)) {l id : Nat} {bs : List Nat} (hb : BU h l id bs) (h8 : ∀ b ∈ bs,b < 256) (hq : ∀ h',h.next = h'.next → (∀ j,j ≠ id → hget h'.mem j = hget h.mem j) → Q (.str bs) h') : VC E T 24 [.ptr l 0] h Q R := Zbr h24 (by
  unfold Vo Z3
  rcases hb with ⟨rfl,hb | hb,hi⟩ | ⟨hb,hi,hd,hne⟩
  · rw [ZO] at hb
    simp only [hb]
    exact hq _ rfl fun j _ => rfl
  · rw [ZO] at hb
    simp only [hb]
    exact hq _ rfl fun j _ => rfl
  · have hz : Nat.beq bs.length 0 = false := by
      cases bs with
      | nil => exact absurd rfl hne
      | cons a r => rfl
    rw [ZO] at hb hi
    unfold Zb2 Z3
    have e : ∀ y : D,(bif Nat.beq (List.take 1 (List.drop 1 [D.ptr l 0,y])).length 1 then some (List.take 1 (List.drop 1 [D.ptr l 0,y])) else none) = some [y] := fun _ => rfl
    simp only [hb,e,hi,Zl0 h8,Nat.beq_refl,hz]
    refine hq _ rfl fun j hj => ?_
    simp only [ZO,Tr.get_set,if_neg hj])
end
section
variable {h : H} {Q : D → H → Prop} {R : ZM}
def q8 : ZV := Zbg Zf (fun t h => .ok (Gt 2 t) h)
 (Z0 (Z1<|fo (Zh (kS [])) (St 2)<|Z2)
 (Z0 (Z1<|mM 0 7<|mM 0 8<|fo (u1 Yy (Gt 8)) (St 9)<|fo (fbi .min #[3,3] 3 #[false,true] [(Gt 9),(kI 65535)]) (St 10)<|fo (uo (Zd3 2) (Gt 7) none (some (Gt 10))) (St 11)<|mM 11 0<|Z2)
 (Z0 (Z1<|fo (Zo 82 [(.v (.pointer none)),(.v (.slice none 0 0))]) (St 3)<|fo (Zo 82 [(.v (.pointer none)),(.v (.slice none 0 0))]) (St 4)<|Z2)
 (Z0 (Z0 (Z1<|mM 0 12<|fo (u1 Yy (Gt 12)) (St 13)<|fo (Zh (kI 0)) (St 14)<|Z2)
 (ZA 0 (Xy (Z0 (Z1<|fo (Za WH .lss 3 (.tmp 14) (.tmp 13) (Gt 14) (Gt 13)) (St 15)<|Z2)
 (Z0 (Zg (Gt 15) Zx (Vi 0))
 (Z0 (ZA 1 (Z0 (Z1<|fo (u2 (ZZ 2) (Gt 12) (Gt 14)) (St 16)<|fo (YB 2 (Gt 16)) (St 17)<|fo (Zo 45 [(.int .u32 (.ofNat 0)),(.str [])]) (St 6)<|fo (ZF 2 (Gt 6) (Gt 17)) p0<|Z2)
 (Z0 (Xf<|Xw 0 [] 2 (Gt 6) (YB 2 (Gt 6)) (St 18)<|Zju 1 [0] (Zw 22 [(Gt 3)]) (St 19)<|Ze (Za YS .add 3 (.const (.int .i64 (.ofNat 64))) (.tmp 19) (kI 64) (Gt 19)) (St 20)<|Zju 3 [] (Zw 21 [(Gt 18),(Gt 20)]) (St 21)<|Zju 4 [] (Zw 20 [(Gt 4),(Gt 21)]) (St 22)<|Xg)
 (Z1<|mF 1 6 23<|mL 23 24<|mK 20 [(Gt 3),(Gt 24)] 25<|Z2))))
 (Z1<|fo (Za YS .add 3 (.tmp 14) (.const (.int .i64 (.ofNat 1))) (Gt 14) (kI 1)) (St 26)<|mM 26 14<|Z2)))))))
 (Z0 (Z1<|mK 22 [(Gt 3)] 27<|fo (Za YS .add 3 (.const (.int .i64 (.ofNat 64))) (.tmp 27) (kI 64) (Gt 27)) (St 28)<|mM 0 29<|fo (u1 Yy (Gt 29)) (St 30)<|mK 23 [(Gt 28),(Gt 30)] 31<|mK 24 [(Gt 3)] 32<|fo (Za YS .add 9 (.tmp 31) (.tmp 32) (Gt 31) (Gt 32)) (St 33)<|mK 24 [(Gt 4)] 34<|fo (Za YS .add 9 (.tmp 33) (.tmp 34) (Gt 33) (Gt 34)) (St 35)<|mM 35 2<|Z2)
 Zv)))))
def YR : List (Nat × List Nat) → List Nat
  | [] => []
  | (_,d) :: r => d ++ YR r
def Zfl (n : Nat) : List (Nat × List Nat) → List Nat
  | [] => []
  | (k,d) :: r => Zgv k d.length (64 + n) ++ Zfl (n + d.length) r
def YM (sx : List (Nat × List Nat)) : List Nat := Zcm (64 + (YR sx).length) sx.length ++ YR sx ++ Zfl 0 sx
def UV : List (Nat × List Nat) → List D
  | [] => []
  | (k,d) :: r => .int .u32 (.ofNat k) :: .str d :: UV r
theorem Zk7 : ∀ (sx : List (Nat × List Nat)) (i : Nat),(UV sx).drop (i * 2) = UV (sx.drop i)
  | [],i => by simp [UV]
  | (k,d) :: r,0 => rfl
  | (k,d) :: r,i + 1 => by rw [Nat.add_mul,Nat.one_mul]; exact Zk7 r i
theorem Zko {k n i : Nat} : (Zgv k n i).length = 64 := by simp only [Zgv,List.length_append,Znd]
theorem Zdy {a n : Nat} : (Zcm a n).length = 64 := by simp only [Zcm,List.length_append,Znd,List.length_cons,List.length_nil]
theorem BU.nil {h : H} {l : Nat} (hm : hget h.mem l = some (.cells 82 [.v (.pointer none),.v (.slice none 0 0)])) : BU h l l [] := Or.inl ⟨rfl,Or.inl hm,rfl⟩
structure SOk (sx : List (Nat × List Nat)) : Prop where
  n : sx.length ≤ 20
  k : ∀ s ∈ sx,s.1 < 4294967296
  d : ∀ s ∈ sx,s.2.length ≤ 300
  b : ∀ s ∈ sx,∀ b ∈ s.2,b < 256
def isS (x : D) (sx : List (Nat × List Nat)) : Prop := (sx = [] ∧ x = .v (.slice none 0 0)) ∨ (sx ≠ [] ∧ ∃ id,x = .sl id sx.length (UV sx))
abbrev IB (h0 : H) (x : D) (sx : List (Nat × List Nat)) (m : Nat) (t1 : Tr D) (h1 : H) : Prop :=
  h0.next + 2 ≤ h1.next ∧ (∀ l,l < h0.next → hget h1.mem l = hget h0.mem l) ∧ Gt 12 t1 = x ∧ Gt 13 t1 = .int .i64 (.ofNat sx.length) ∧ Gt 3 t1 = .ptr h0.next 0 ∧ Gt 4 t1 = .ptr (h0.next + 1) 0 ∧ Gt 0 t1 = x ∧
  ∃ i i1 i2 D1 D2,Gt 14 t1 = .int .i64 (.ofNat i) ∧ i + m = sx.length ∧ BU h1 h0.next i1 D1 ∧ BU h1 (h0.next + 1) i2 D2 ∧ h0.next ≤ i1 ∧ h0.next ≤ i2 ∧ i1 < h1.next ∧ i2 < h1.next ∧ i1 ≠ i2 ∧ i1 ≠ h0.next + 1 ∧ i2 ≠ h0.next ∧ D1 ++ YR (sx.drop i) = YR sx ∧ D2 ++ Zfl D1.length (sx.drop i) = Zfl 0 sx ∧ D1.length ≤ 300 * i ∧ D2.length = 64 * i
theorem Zva {k n : Nat} : ∀ b ∈ Zeo k n,b < 256 := by
  intro b hb
  obtain ⟨i,_,rfl⟩ := List.mem_map.mp hb
  exact Nat.mod_lt _ (by decide)
theorem entB_b {k n i : Nat} : ∀ b ∈ Zgv k n i,b < 256 := by
  intro b hb
  simp only [Zgv,List.mem_append] at hb
  rcases hb with (((((((hb | hb) | hb) | hb) | (hb | hb)) | hb) | hb) | hb) | hb <;> exact Zva b hb
theorem Zs7 : ∀ {sx : List (Nat × List Nat)},(∀ s ∈ sx,∀ b ∈ s.2,b < 256) → ∀ b ∈ YR sx,b < 256
  | [],_,b,hb => absurd hb (by simp [YR])
  | (k,d) :: r,h,b,hb => by
    rw [YR,List.mem_append] at hb
    exact hb.elim (fun hb => h _ (List.mem_cons_self ..) b hb) fun hb => Zs7 (fun s hs => h s (List.mem_cons_of_mem _ hs)) b hb
theorem Zwm : ∀ {sx : List (Nat × List Nat)} {n : Nat},∀ b ∈ Zfl n sx,b < 256
  | [],n,b,hb => absurd hb (by simp [Zfl])
  | (k,d) :: r,n,b,hb => by
    rw [Zfl,List.mem_append] at hb
    exact hb.elim (fun hb => entB_b b hb) fun hb => Zwm b hb
theorem vc8s (h159 : T 159 = Zjg) (h111 : T 111 = Zj9) (h78 : T 78 = Z0k) (h112 : T 112 = Zoe) (h79 : T 79 = Z6c) (h80 : T 80 = Z1z) (h49 : T 49 = Z7q) (h48 : T 48 = q48) (h50 : T 50 = YK U8) (h21 : T 21 = q21) (h23 : T 23 = q23) (h47 : T 47 = YK (XZ 82)) (h20 : T 20 = q20) (h22 : T 22 = q22) (h24 : T 24 = YK (Vo 5)) (h8 : T 8 = q8) {sx : List (Nat × List Nat)} {id : Nat} (hx : SOk sx) (hq : ∀ h',h.next ≤ h'.next → (∀ l,l < h.next → hget h'.mem l = hget h.mem l) → Q (.str (YM sx)) h') : VC E T 8 [.sl id sx.length (UV sx)] h Q R := by
  have hxn := hx.n
  have hsl : ∀ hh : H,Z0q 2 (.sl id sx.length (UV sx)) (.int .i64 (.ofNat sx.length)) hh = .ok (.sl id sx.length (UV sx)) hh := fun hh => by rw [Zsl (Nat.le_refl _),Zjr,Nat.beq_refl]; rfl
  have hmn : min sx.length 65535 = sx.length := by omega
  refine Zd h8 ?_
  unfold Zf
  repeat' (with_reducible (first | refine zc ?_ | refine Vp (IB h (.sl id sx.length (UV sx)) sx) (n := sx.length) ?_ ?_ | simp (maxSteps := 2000000) (disch := first | exact zd | fail) only [go_sem, -Int.reduceOfNat, *,Zdr] | (refine zb ?_ ?_ <;> intro _ <;> (try (exfalso; omega))) | exact ze | (intro _; intros) | (refine ⟨_,by assumption, ?_⟩) | refine And.intro ?_ ?_))
  · refine ⟨h.next,h.next + 1,[],Or.inl ⟨rfl,Or.inl ?_,rfl⟩,[],Or.inl ⟨rfl,Or.inl ?_,rfl⟩, ?_⟩
    · rw [Zi (by simp only [Z8]; omega)]; exact YE rfl
    · exact YE rfl
    · repeat' apply And.intro
      all_goals first | omega | rfl | (simp; done)
  · rintro m t1 h1 ⟨gn,gf,g12,g13,gA,gB,g0,i,i1,i2,D1,D2,g14,gi,hB1,hB2,k1,k2,k3,k4,k5,k6,k7,e1,e2,e3,e4⟩
    by_cases hlt : i < sx.length
    · obtain ⟨kd,dat,hdr⟩ : ∃ kd dat,sx.drop i = (kd,dat) :: sx.drop (i + 1) := ⟨sx[i].1,sx[i].2,by rw [List.drop_eq_getElem_cons hlt]⟩
      have hmem : (kd,dat) ∈ sx := List.mem_of_mem_drop (i := i) (by rw [hdr]; exact List.mem_cons_self ..)
      have hk := hx.k _ hmem
      have hd := hx.d _ hmem
      simp only at hk hd
      have hix : ∀ hh : H,Zci 2 (.sl id sx.length (UV sx)) (.int .i64 (.ofNat i)) hh = .ok (.ep (.int .u32 (.ofNat kd) :: .str dat :: UV (sx.drop (i + 1)))) hh := fun hh => UT hlt (by rw [Zk7,hdr]; rfl)
      rw [hdr] at e1 e2
      rw [YR] at e1
      rw [Zfl] at e2
      clear hmn hsl hdr
      repeat' (with_reducible (first | refine zc ?_ | refine (vc22 h22 (BU.up hB1 ?_ ?_) ?_) | refine vc21 h159 h111 h78 h112 h79 h80 h49 h48 h21 ?_ ?_ ?_ ?_ | refine (vc20 h47 h20 ?_ ?_ ?_ (BU.up hB2 ?_ ?_) ?_) | refine (vc20 h47 h20 ?_ ?_ ?_ (BU.up hB1 ?_ ?_) ?_) | simp (maxSteps := 2000000) (disch := first | exact zd | fail) only [go_sem, -Int.reduceOfNat, *,Zdr] | (refine zb ?_ ?_ <;> intro _ <;> (try (exfalso; omega))) | (intro h3 j3 f1 f2 f3 f4 f5) | (intro h2 f1 f2) | (show ∃ k,k < m ∧ IB h _ sx k _ _; refine ⟨m - 1,by omega, ?_⟩) | (show _ ≤ _; simp only [Zko]; omega) | exact ze | (intro _; intros) | (refine ⟨_,by assumption, ?_⟩) | refine And.intro ?_ ?_))
      all_goals
        rename_i a1 a2 h4 j4 b1 b2 b3 b4 b5
        refine ⟨j3,j4,_,f5,_,BU.up b5 (f4 _ (by omega) (by omega) (by omega)) (f4 _ b3 (by omega) (by omega)),by omega,by omega,by omega,by omega,by omega,by omega,by omega, ?_, ?_, ?_, ?_⟩
        · rw [List.append_assoc]; exact e1
        · rw [List.length_append,List.append_assoc]; exact e2
        · rw [List.length_append]; omega
        · rw [List.length_append,Zko]; omega
    · obtain rfl : i = sx.length := by omega
      rw [List.drop_length] at e1 e2
      simp only [YR,Zfl,List.append_nil] at e1 e2
      subst e1 e2
      have hb1 : ∀ b ∈ YR sx,b < 256 := Zs7 hx.b
      have hb2 : ∀ b ∈ Zfl 0 sx,b < 256 := Zwm
      have hl1 : (Zcm (64 + (YR sx).length) sx.length).length + (YR sx).length ≤ 140737488355328 := by rw [Zdy]; omega
      have hl2 : (Zcm (64 + (YR sx).length) sx.length ++ YR sx).length + (Zfl 0 sx).length ≤ 140737488355328 := by rw [List.length_append,Zdy]; omega
      simp only [YM,List.append_assoc] at hq
      clear hmn hsl
      repeat' (with_reducible (first | refine zc ?_ | refine (vc22 h22 (BU.up hB1 ?_ ?_) ?_) | refine (vc23 h159 h111 h78 h112 h79 h80 h49 h48 h50 h23 ?_ ?_ ?_) | refine (vc24 h24 (BU.up hB1 ?_ ?_) hb1 ?_) | refine (vc24 h24 (BU.up hB2 ?_ ?_) hb2 ?_) | simp (maxSteps := 2000000) (disch := first | exact zd | fail) only [go_sem, -Int.reduceOfNat, *,YP] | (refine zb ?_ ?_ <;> intro _ <;> (try (exfalso; omega))) | (intro h2 f1 f2) | (show Q _ _; refine hq _ ?_ ?_) | exact ze | (intro _; intros) | (refine ⟨_,by assumption, ?_⟩) | refine And.intro ?_ ?_))
theorem vc8n (h159 : T 159 = Zjg) (h111 : T 111 = Zj9) (h78 : T 78 = Z0k) (h112 : T 112 = Zoe) (h79 : T 79 = Z6c) (h80 : T 80 = Z1z) (h49 : T 49 = Z7q) (h48 : T 48 = q48) (h50 : T 50 = YK U8) (h21 : T 21 = q21) (h23 : T 23 = q23) (h47 : T 47 = YK (XZ 82)) (h20 : T 20 = q20) (h22 : T 22 = q22) (h24 : T 24 = YK (Vo 5)) (h8 : T 8 = q8) (hq : ∀ h',h.next ≤ h'.next → (∀ l,l < h.next → hget h'.mem l = hget h.mem l) → Q (.str (YM [])) h') : VC E T 8 [.v (.slice none 0 0)] h Q R := by
  have hm0 : min 0 65535 = 0 := rfl
  have hl1 : (Zcm 64 0).length + ([] : List Nat).length ≤ 140737488355328 := by rw [Zdy]; decide
  simp only [YM,YR,Zfl,List.append_nil,List.length_nil,Nat.add_zero] at hq
  refine Zd h8 ?_
  unfold Zf
  repeat' (with_reducible (first | refine zc ?_ | refine Zan ?_ | refine (vc22 h22 (BU.nil ?_) ?_) | refine (vc23 h159 h111 h78 h112 h79 h80 h49 h48 h50 h23 ?_ ?_ ?_) | refine (vc24 h24 (BU.nil ?_) (fun b hb => absurd hb List.not_mem_nil) ?_) | simp (maxSteps := 2000000) (disch := first | exact zd | fail) only [go_sem, -Int.reduceOfNat, *,YP,Zdr,Wg,List.append_nil,Nat.add_zero,Zdy,List.length_nil,Nat.reduceAdd,Nat.reduceLeDiff] | (refine zb ?_ ?_ <;> intro _ <;> (try (exfalso; omega))) | (intro h2 f1 f2) | (show Q _ _; refine hq _ ?_ ?_) | exact ze | (intro _; intros) | (refine ⟨_,by assumption, ?_⟩) | refine And.intro ?_ ?_))
end
section
variable {h : H} {Q : D → H → Prop} {R : ZM}
def q7 : ZV := Zbg Zf (fun t h => .ok (.tup [(Gt 2) t,(Gt 3) t]) h)
 (Z0 (Z1<|fo (Zh (kD (.v (.slice none 0 0)))) (St 2)<|fo (Zh (kD (.v (.slice none 0 0)))) (St 3)<|Z2)
 (Z0 (Z1<|fo (Zh (kD (.v (.slice none 0 0)))) (St 4)<|Z2)
 (Z0 (Z1<|fo (Zh (kD (.v (.slice none 0 0)))) (St 5)<|Z2)
 (Z0 (Z0 (Z1<|mM 0 8<|mM 0 9<|fo (u1 Yy (Gt 9)) (St 10)<|fo (fbi .min #[3,3] 3 #[false,true] [(Gt 10),(kI 20)]) (St 11)<|fo (uo (Zd3 2) (Gt 8) none (some (Gt 11))) (St 12)<|fo (u1 Yy (Gt 12)) (St 13)<|fo (Zh (kI 0)) (St 14)<|Z2)
 (ZA 0 (Xy (Z0 (Z1<|fo (Za WH .lss 3 (.tmp 14) (.tmp 13) (Gt 14) (Gt 13)) (St 15)<|Z2)
 (Z0 (Zg (Gt 15) Zx (Vi 0))
 (Z0 (ZA 1 (Z0 (Z1<|fo (u2 (ZZ 2) (Gt 12) (Gt 14)) (St 16)<|fo (YB 2 (Gt 16)) (St 17)<|fo (Zo 78 [(.int .u32 (.ofNat 0)),(.str [])]) (St 7)<|fo (ZF 2 (Gt 7) (Gt 17)) p0<|Z2)
 (Z0 (Z1<|mF 1 7 18<|mL 18 19<|mF 1 7 20<|mL 20 21<|fo (u1 Vm (Gt 21)) (St 22)<|fo (fbi .min #[3,3] 3 #[false,true] [(Gt 22),(kI 300)]) (St 23)<|fo (Zcv (Gt 19) none (some (Gt 23))) (St 24)<|mF 1 7 25<|mS 25 (Gt 24)<|Z2)
 (Xf<|Ze (Zh (Gt 4)) (St 26)<|Xw 1 [0] 2 (Gt 7) (YB 2 (Gt 7)) (St 27)<|Ze (Xu 45 1 [(.int .u32 (.ofNat 0)),(.str [])] [(0,2,(Gt 27))]) (St 28)<|Zg8 3 [] (u2 (Zbo 45 2 24) (Gt 26) (Gt 28)) (St 29)<|Ze (Zh (Gt 5)) (St 30)<|Xw 5 [0,1,2,3,4] 2 (Gt 7) (YB 2 (Gt 7)) (St 31)<|Ze (Xu 79 1 [(.int .u32 (.ofNat 0)),(.str [])] [(0,2,(Gt 31))]) (St 32)<|Zg8 7 [] (u2 (Zbo 79 2 24) (Gt 30) (Gt 32)) (St 33)<|Ze (Zh (Gt 29)) (St 4)<|Ze (Zh (Gt 33)) (St 5)<|Xg))))
 (Z1<|fo (Za YS .add 3 (.tmp 14) (.const (.int .i64 (.ofNat 1))) (Gt 14) (kI 1)) (St 34)<|mM 34 14<|Z2)))))))
 (Z0 (Z1<|mM 4 35<|mM 5 36<|mM 35 2<|mM 36 3<|Z2)
 Zv)))))
def WK (l : List (Nat × List Nat)) : List (Nat × List Nat) := (l.take 20).map fun s => (s.1,s.2.take 300)
theorem Znu : ∀ a b : List (Nat × List Nat),UV (a ++ b) = UV a ++ UV b
  | [],b => rfl
  | (k,d) :: r,b => by rw [List.cons_append,UV,UV,Znu r b]; rfl
theorem Zt5 : ∀ a : List (Nat × List Nat),(UV a).length = a.length * 2
  | [] => rfl
  | (k,d) :: r => by rw [UV,List.length_cons,List.length_cons,Zt5 r,List.length_cons]; omega
theorem Zt2 (l : List (Nat × List Nat)) : (WK l).length = min l.length 20 := by rw [WK,List.length_map,List.length_take,Nat.min_comm]
abbrev IS (h0 : H) (l : List (Nat × List Nat)) (x : D) (m : Nat) (t1 : Tr D) (h1 : H) : Prop :=
  h0.next ≤ h1.next ∧ (∀ l,l < h0.next → hget h1.mem l = hget h0.mem l) ∧ Gt 12 t1 = x ∧ Gt 13 t1 = .int .i64 (.ofNat (min l.length 20)) ∧
  ∃ i,Gt 14 t1 = .int .i64 (.ofNat i) ∧ i + m = min l.length 20 ∧
  ((i = 0 ∧ Gt 4 t1 = .v (.slice none 0 0) ∧ Gt 5 t1 = .v (.slice none 0 0)) ∨ (i ≠ 0 ∧ ∃ ia ib,Gt 4 t1 = .sl ia i (UV ((WK l).take i)) ∧ Gt 5 t1 = .sl ib i (UV ((WK l).take i)) ∧ hget h1.mem ia = some (.tip i 45) ∧ hget h1.mem ib = some (.tip i 79) ∧ ia ≠ ib ∧ h0.next ≤ ia ∧ h0.next ≤ ib ∧ ia < h1.next ∧ ib < h1.next))
theorem vc7s (h7 : T 7 = q7) {l : List (Nat × List Nat)} {id : Nat} (hq : ∀ h' x y,h.next ≤ h'.next → (∀ l,l < h.next → hget h'.mem l = hget h.mem l) → isS x (WK l) → Q (.tup [x,y]) h') : VC E T 7 [.sl id l.length (UV l)] h Q R := by
  have hm0 : min l.length 20 ≤ l.length := by omega
  obtain ⟨id',cs',hH,hc⟩ := Z08 (size := 2) (id := id) (cs := UV l) hm0
  have hsl : ∀ hh : H,Z0q 2 (.sl id l.length (UV l)) (.int .i64 (.ofNat (min l.length 20))) hh = .ok (.sl id' (min l.length 20) cs') hh := fun hh => by rw [Zsl hm0,hH]
  have hls := Zt2 l
  refine Zd h7 ?_
  unfold Zf
  repeat' (with_reducible (first | refine zc ?_ | refine Vp (IS h l (.sl id' (min l.length 20) cs')) (n := min l.length 20) ?_ ?_ | simp (maxSteps := 2000000) (disch := first | exact zd | fail) only [go_sem, -Int.reduceOfNat, *,Zdr] | (refine zb ?_ ?_ <;> intro _ <;> (try (exfalso; omega))) | exact ze | (intro _; intros) | (refine ⟨_,by assumption, ?_⟩) | refine And.intro ?_ ?_))
  · rintro m t1 h1 ⟨gn,gf,g12,g13,i,g14,gi,hS⟩
    by_cases hlt : i < min l.length 20
    · have hll : i < l.length := by omega
      obtain ⟨kd,dat,hdr,hge⟩ : ∃ kd dat,l.drop i = (kd,dat) :: l.drop (i + 1) ∧ l[i]? = some (kd,dat) := ⟨l[i].1,l[i].2,by rw [List.drop_eq_getElem_cons hll],by rw [List.getElem?_eq_getElem hll]⟩
      obtain ⟨rest,hrest⟩ := hc i [.int .u32 (.ofNat kd),.str dat] (UV (l.drop (i + 1))) (by rw [Zk7,hdr]; rfl) rfl hlt
      have hix : ∀ hh : H,Zci 2 (.sl id' (min l.length 20) cs') (.int .i64 (.ofNat i)) hh = .ok (.ep (.int .u32 (.ofNat kd) :: .str dat :: rest)) hh := fun hh => UT hlt hrest
      have htk : (WK l).take (i + 1) = (WK l).take i ++ [(kd,dat.take 300)] := by
        rw [List.take_add_one,WK,List.getElem?_map,List.getElem?_take_of_lt (by omega),hge]; rfl
      have hmd : dat.take (min dat.length 300) = dat.take 300 := by
        rcases Nat.le_total dat.length 300 with h3 | h3
        · rw [Nat.min_eq_left h3,List.take_of_length_le (Nat.le_refl _),List.take_of_length_le h3]
        · rw [Nat.min_eq_right h3]
      have hml : min dat.length 300 ≤ dat.length := by omega
      have htl : ((WK l).take i).length = i := by rw [List.length_take,hls]; omega
      have htc : (UV ((WK l).take i)).length = i * 2 := by rw [Zt5,htl]
      clear hH hc hrest hdr hge hsl hls
      rcases hS with ⟨rfl,gA,gB⟩ | ⟨hne,ia,ib,gA,gB,t1a,t1b,d1,d2,d3,d4,d5⟩
      · repeat' (with_reducible (first | refine zc ?_ | simp (maxSteps := 2000000) (disch := first | exact zd | fail) only [go_sem, -Int.reduceOfNat, *,Zdr,YN,Option.map_none,Option.map_some,Zw1,hmd,Zhq,Zm9,Zif] | (refine zb ?_ ?_ <;> intro _ <;> (try (exfalso; omega))) | (show ∃ k,k < m ∧ IS h l _ k _ _; refine ⟨m - 1,by omega, ?_⟩) | exact ze | (intro _; intros) | (refine ⟨_,by assumption, ?_⟩) | refine And.intro ?_ ?_))
        refine Or.inr ⟨by omega,_,rfl,_,rfl, ?_⟩
        exact Zy7
      · repeat' (with_reducible (first | refine zc ?_ | simp (maxSteps := 2000000) (disch := first | exact zd | fail) only [go_sem, -Int.reduceOfNat, *,Zdr,YN,Option.map_none,Option.map_some,Zw1,hmd,Zhq,Zm9,Zif] | (refine zb ?_ ?_ <;> intro _ <;> (try (exfalso; omega))) | (show ∃ k,k < m ∧ IS h l _ k _ _; refine ⟨m - 1,by omega, ?_⟩) | exact ze | (intro _; intros) | (refine ⟨_,by assumption, ?_⟩) | refine And.intro ?_ ?_))
        refine Or.inr ⟨by omega,_,by rw [Znu]; rfl,_,by rw [Znu]; rfl, ?_⟩
        exact Zy7
    · obtain hil : i = min l.length 20 := by omega
      have htk : (WK l).take i = WK l := List.take_of_length_le (by omega)
      rw [htk] at hS
      clear hH hsl hc htk
      rcases hS with ⟨h00,gA,gB⟩ | ⟨hne,ia,ib,gA,gB,t1a,t1b,d1,d2,d3,d4,d5⟩
      · have hnl : WK l = [] := List.eq_nil_of_length_eq_zero (by omega)
        have hv : isS (.v (.slice none 0 0)) (WK l) := Or.inl ⟨hnl,rfl⟩
        subst h00
        clear hnl hil
        exact Zy6
      · have hnl : WK l ≠ [] := fun he => by rw [he] at hls; exact hne (by rw [hil,← hls]; rfl)
        have hv : isS (.sl ia i (UV (WK l))) (WK l) := Or.inr ⟨hnl,ia,by rw [hil,← hls]⟩
        clear hil
        exact Zy6
theorem vc7n (h7 : T 7 = q7) (hq : Q (.tup [.v (.slice none 0 0),.v (.slice none 0 0)]) h) : VC E T 7 [.v (.slice none 0 0)] h Q R := by
  have hm0 : min 0 20 = 0 := rfl
  refine Zd h7 ?_
  unfold Zf
  repeat' (with_reducible (first | refine zc ?_ | refine Zan ?_ | simp (maxSteps := 2000000) (disch := first | exact zd | fail) only [go_sem, -Int.reduceOfNat, *,Zdr,Wg] | (refine zb ?_ ?_ <;> intro _ <;> (try (exfalso; omega))) | (show Q _ _; exact hq) | exact ze | (intro _; intros) | (refine ⟨_,by assumption, ?_⟩) | refine And.intro ?_ ?_))
end
section
variable {h : H} {Q : D → H → Prop} {R : ZM}
def q98 : ZV := Zbg Zf (fun t h => .ok (Gt 2 t) h)
 (Z0 (Z1<|fo (Zai 39 (Gt 0)) (St 1)<|fo (Zh (kD (.v (.bool false)))) (St 2)<|Z2)
 (Z0 (Z0 (Z1<|mF 0 1 3<|mL 3 4<|fo (Za WH .lss 35 (.tmp 4) (.const (.int .i64 (.ofNat 0))) (Gt 4) (kI 0)) (St 5)<|mM 5 6<|Yl (Gt 6) false (u1 (Zt 0) (Gt 1)) (St 7)<|Yl (Gt 6) false (Zl (Gt 7)) (St 8)<|Yl (Gt 6) false (Za Zcy .geq 35 (.tmp 8) (.const (.int .i64 (.ofNat 5))) (Gt 8) (kI 5)) (St 9)<|fo (Yb (Gt 6) (kD (.v (.bool true))) (Gt 9)) (St 10)<|Z2)
 (Zg (Gt 10) (Z0 (Z1<|fo (Zh (kD (.v (.bool false)))) (St 2)<|Z2)
 Zv) Zx))
 (Z0 (Z1<|mF 0 1 11<|mL 11 12<|fo (mQ 35 12 1) (St 13)<|mM 13 14<|Yl (Gt 14) false (u1 (Zt 1) (Gt 1)) (St 15)<|Yl (Gt 14) false (Zl (Gt 15)) (St 16)<|Yl (Gt 14) false (Za YG .eql 36 (.tmp 16) (.const (.int .u64 (.ofNat 0))) (Gt 16) (kD (.int .u64 (.ofNat 0)))) (St 17)<|fo (Yb (Gt 14) (kD (.v (.bool true))) (Gt 17)) (St 18)<|mM 18 19<|Yl (Gt 19) true (u1 (Zt 0) (Gt 1)) (St 20)<|Yl (Gt 19) true (Zl (Gt 20)) (St 21)<|Yl (Gt 19) true (mQ 35 21 2) (St 22)<|Yl (Gt 19) true (Zh (Gt 22)) (St 23)<|Yl (Gt 23) false (u1 (Zt 2) (Gt 1)) (St 24)<|Yl (Gt 23) false (Zl (Gt 24)) (St 25)<|Yl (Gt 23) false (Za YG .eql 9 (.tmp 25) (.const (.string ⟨#[]⟩)) (Gt 25) (kS [])) (St 26)<|Yl (Gt 19) true (Yb (Gt 23) (kD (.v (.bool true))) (Gt 26)) (St 27)<|fo (Yb (Gt 19) (Gt 27) (kD (.v (.bool false)))) (St 28)<|mM 28 29<|Yl (Gt 29) true (u1 (Zt 0) (Gt 1)) (St 30)<|Yl (Gt 29) true (Zl (Gt 30)) (St 31)<|Yl (Gt 29) true (Za Zcy .geq 35 (.tmp 31) (.const (.int .i64 (.ofNat 3))) (Gt 31) (kI 3)) (St 32)<|Yl (Gt 29) true (Zh (Gt 32)) (St 33)<|Yl (Gt 33) false (u1 (Zt 3) (Gt 1)) (St 34)<|Yl (Gt 33) false (Zl (Gt 34)) (St 35)<|Yl (Gt 33) false (u1 Yy (Gt 35)) (St 36)<|Yl (Gt 33) false (mQ 3 36 0) (St 37)<|Yl (Gt 29) true (Yb (Gt 33) (kD (.v (.bool true))) (Gt 37)) (St 38)<|fo (Yb (Gt 29) (Gt 38) (kD (.v (.bool false)))) (St 39)<|mM 39 2<|Z2)
 Zv)))
def q62 : ZV := Zbg Zf (fun t h => .ok (Gt 4 t) h)
 (Z0 (Z1<|fo (Zai 39 (Gt 0)) (St 2)<|fo (Zh (kI 0)) (St 4)<|Z2)
 (Z0 (Z0 (Z1<|fo (YB 4 (Gt 2)) (St 9)<|mK 98 [(Gt 9)] 10<|fo (u1 (Ze7 .not) (Gt 10)) (St 11)<|mM 11 12<|Yl (Gt 12) false (Zh (Gt 1)) (St 13)<|Yl (Gt 12) false (mQ 3 13 0) (St 14)<|fo (Yb (Gt 12) (kD (.v (.bool true))) (Gt 14)) (St 15)<|Z2)
 (Zg (Gt 15) (Z0 (Z1<|fo (Zh (kI 0)) (St 4)<|Z2)
 Zv) Zx))
 (Z0 (Z1<|fo (Zh (kI 1)) (St 5)<|Z2)
 (Z0 (Z0 (Z1<|mF 3 2 16<|mL 16 17<|fo (u1 Yy (Gt 17)) (St 18)<|fo (Zh (kI 0)) (St 19)<|Z2)
 (ZA 0 (Xy (Z0 (Z1<|fo (Za WH .lss 3 (.tmp 19) (.tmp 18) (Gt 19) (Gt 18)) (St 20)<|Z2)
 (Z0 (Zg (Gt 20) Zx (Vi 0))
 (Z0 (ZA 1 (Z0 (Z1<|fo (u2 (ZZ 4) (Gt 17) (Gt 19)) (St 21)<|fo (YB 4 (Gt 21)) (St 22)<|fo (Zo 39 [(.int .i64 (.ofNat 0)),(.int .u64 (.ofNat 0)),(.str []),(.v (.slice none 0 0))]) (St 7)<|fo (ZF 4 (Gt 7) (Gt 22)) p0<|Z2)
 (Z0 (Z1<|fo (YB 4 (Gt 7)) (St 23)<|mM 1 24<|fo (Za Zff .sub 3 (.tmp 24) (.const (.int .i64 (.ofNat 1))) (Gt 24) (kI 1)) (St 25)<|mK 62 [(Gt 23),(Gt 25)] 26<|mM 26 8<|Z2)
 (Z0 (Z0 (Z1<|mM 8 27<|fo (mQ 3 27 0) (St 28)<|Z2)
 (Zg (Gt 28) (Z0 (Z1<|fo (Zh (kI 0)) (St 4)<|Z2)
 Zv) Zx))
 (Z1<|mM 5 29<|mM 8 30<|fo (Za YS .add 3 (.tmp 29) (.tmp 30) (Gt 29) (Gt 30)) (St 31)<|mM 31 5<|Z2)))))
 (Z1<|fo (Za YS .add 3 (.tmp 19) (.const (.int .i64 (.ofNat 1))) (Gt 19) (kI 1)) (St 32)<|mM 32 19<|Z2)))))))
 (Z0 (Z1<|mM 5 33<|mM 33 4<|Z2)
 Zv)))))
def q35 : ZV := Zbg Zf (fun t h => .ok (Gt 2 t) h)
 (Z0 (Z1<|fo (Zai 39 (Gt 0)) (St 1)<|fo (Zh (kI 0)) (St 2)<|Z2)
 (Z0 (Z1<|fo (YB 4 (Gt 1)) (St 3)<|mK 62 [(Gt 3),(kI 1200)] 4<|mM 4 2<|Z2)
 Zv))
def q27 : ZV := Zbg Zf (fun t h => .ok (Gt 2 t) h)
 (Z0 (Z1<|fo (Zai 39 (Gt 0)) (St 1)<|fo (Zh (kD (.v (.bool false)))) (St 2)<|Z2)
 (Z0 (Z1<|fo (YB 4 (Gt 1)) (St 3)<|mK 35 [(Gt 3)] 4<|fo (Za Zcp .gtr 3 (.tmp 4) (.const (.int .i64 (.ofNat 0))) (Gt 4) (kI 0)) (St 5)<|mM 5 2<|Z2)
 Zv))
def q28 : ZV := Zbg Zf (fun t h => .ok (Gt 4 t) h)
 (Z0 (Z1<|fo (Zai 39 (Gt 0)) (St 2)<|fo (Zai 39 (Gt 1)) (St 3)<|fo (Zh (kD (.v (.bool false)))) (St 4)<|Z2)
 (Z0 (Z0 (Z1<|mF 0 2 6<|mL 6 7<|mF 0 3 8<|mL 8 9<|fo (Za Wo .neq 35 (.tmp 7) (.tmp 9) (Gt 7) (Gt 9)) (St 10)<|mM 10 11<|Yl (Gt 11) false (u1 (Zt 1) (Gt 2)) (St 12)<|Yl (Gt 11) false (Zl (Gt 12)) (St 13)<|Yl (Gt 11) false (u1 (Zt 1) (Gt 3)) (St 14)<|Yl (Gt 11) false (Zl (Gt 14)) (St 15)<|Yl (Gt 11) false (Za Wo .neq 36 (.tmp 13) (.tmp 15) (Gt 13) (Gt 15)) (St 16)<|fo (Yb (Gt 11) (kD (.v (.bool true))) (Gt 16)) (St 17)<|mM 17 18<|Yl (Gt 18) false (u1 (Zt 2) (Gt 2)) (St 19)<|Yl (Gt 18) false (Zl (Gt 19)) (St 20)<|Yl (Gt 18) false (u1 (Zt 2) (Gt 3)) (St 21)<|Yl (Gt 18) false (Zl (Gt 21)) (St 22)<|Yl (Gt 18) false (Za Wo .neq 9 (.tmp 20) (.tmp 22) (Gt 20) (Gt 22)) (St 23)<|fo (Yb (Gt 18) (kD (.v (.bool true))) (Gt 23)) (St 24)<|mM 24 25<|Yl (Gt 25) false (u1 (Zt 3) (Gt 2)) (St 26)<|Yl (Gt 25) false (Zl (Gt 26)) (St 27)<|Yl (Gt 25) false (u1 Yy (Gt 27)) (St 28)<|Yl (Gt 25) false (u1 (Zt 3) (Gt 3)) (St 29)<|Yl (Gt 25) false (Zl (Gt 29)) (St 30)<|Yl (Gt 25) false (u1 Yy (Gt 30)) (St 31)<|Yl (Gt 25) false (Za Wo .neq 3 (.tmp 28) (.tmp 31) (Gt 28) (Gt 31)) (St 32)<|fo (Yb (Gt 25) (kD (.v (.bool true))) (Gt 32)) (St 33)<|Z2)
 (Zg (Gt 33) (Z0 (Z1<|fo (Zh (kD (.v (.bool false)))) (St 4)<|Z2)
 Zv) Zx))
 (Z0 (Z0 (Z1<|mF 3 2 34<|mL 34 35<|fo (u1 Yy (Gt 35)) (St 36)<|fo (Zh (kI 0)) (St 37)<|Z2)
 (ZA 0 (Xy (Z0 (Z1<|fo (Za WH .lss 3 (.tmp 37) (.tmp 36) (Gt 37) (Gt 36)) (St 38)<|Z2)
 (Z0 (Zg (Gt 38) Zx (Vi 0))
 (Z0 (ZA 1 (Z0 (Z1<|mM 37 39<|mM 39 5<|Z2)
 (Z0 (Xf<|Ze (u1 (Zt 3) (Gt 2)) (St 40)<|Xw 1 [] 1 (Gt 40) (Zl (Gt 40)) (St 41)<|Ze (Zh (Gt 5)) (St 42)<|Ze (u2 (ZZ 4) (Gt 41) (Gt 42)) (St 43)<|Xw 4 [] 4 (Gt 43) (YB 4 (Gt 43)) (St 44)<|Ze (u1 (Zt 3) (Gt 3)) (St 45)<|Xw 6 [0,1,2,3,4] 1 (Gt 45) (Zl (Gt 45)) (St 46)<|Ze (Zh (Gt 5)) (St 47)<|Ze (u2 (ZZ 4) (Gt 46) (Gt 47)) (St 48)<|Xw 9 [0,1,2,3,4] 4 (Gt 48) (YB 4 (Gt 48)) (St 49)<|Zju 10 [] (Zw 28 [(Gt 44),(Gt 49)]) (St 50)<|Ze (u1 (Ze7 .not) (Gt 50)) (St 51)<|Xg)
 (Zg (Gt 51) (Z0 (Z1<|fo (Zh (kD (.v (.bool false)))) (St 4)<|Z2)
 Zv) Zx))))
 (Z1<|fo (Za YS .add 3 (.tmp 37) (.const (.int .i64 (.ofNat 1))) (Gt 37) (kI 1)) (St 52)<|mM 52 37<|Z2)))))))
 (Z0 (Z1<|fo (Zh (kD (.v (.bool true)))) (St 4)<|Z2)
 Zv))))
def q12 : ZV := Zbg Zf (fun t h => .ok (Gt 4 t) h)
 (Z0 (Z1<|fo (Zai 39 (Gt 0)) (St 2)<|fo (Zai 39 (Gt 1)) (St 3)<|fo (Zh (kD (.v (.bool false)))) (St 4)<|Z2)
 (Z0 (Z1<|fo (YB 4 (Gt 2)) (St 5)<|mK 27 [(Gt 5)] 6<|mM 6 7<|Yl (Gt 7) true (YB 4 (Gt 3)) (St 8)<|Yl (Gt 7) true (Zw 27 [(Gt 8)]) (St 9)<|fo (Yb (Gt 7) (Gt 9) (kD (.v (.bool false)))) (St 10)<|mM 10 11<|Yl (Gt 11) true (YB 4 (Gt 2)) (St 12)<|Yl (Gt 11) true (YB 4 (Gt 3)) (St 13)<|Yl (Gt 11) true (Zw 28 [(Gt 12),(Gt 13)]) (St 14)<|fo (Yb (Gt 11) (Gt 14) (kD (.v (.bool false)))) (St 15)<|mM 15 4<|Z2)
 Zv))
end
end Run
end
end Go.Abs
