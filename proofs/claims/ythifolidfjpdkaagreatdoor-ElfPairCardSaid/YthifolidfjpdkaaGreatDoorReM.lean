/- Lists: walks of the program. -/
import Derived.Test.YthifolidfjpdkaaGreatDoorReI
set_option linter.unusedVariables false
set_option linter.unusedSimpArgs false
namespace Go.Abs
noncomputable section
namespace Run
variable {E : Env} {T : Nat → ZV}
set_option maxHeartbeats 4000000
set_option maxRecDepth 100000
theorem Zy8 {G : Prop} (g : G := by
  repeat' (with_reducible (first | refine zc ?_ | refine vc229 hVL hdc2 hdo2 ?_ | simp (maxSteps := 2000000) (disch := first | assumption | (show Zfq _ _; exact VL (by assumption) (by omega)) | omega | (simp only [Z8,Z7,List.length_cons,List.length_nil,List.length_append,List.length_take,List.length_drop]; omega) | fail) only [go_sem, -Int.reduceOfNat, *] | (refine zb ?_ ?_ <;> intro _ <;> (try (exfalso; omega))) | (show Q _ _; refine hq _ _ _ _ _ (Zuh (by omega) sl) ?_ ?_ ?_) | (rintro h1 n1 f1) | exact ze | (intro _; intros) | (refine ⟨_,by assumption, ?_⟩) | refine And.intro ?_ ?_))) : G := g
attribute [local go_sem] Zc2 Ud Zc3 Ub Uj Ua Ug Zc1 Uf Ue Zc0 XJ Ul XG Uh WM XH Ym WN UY Un WL Ui Uk Um WO YN WQ Zam Wq Wp Uc Vw Vx Zc5 Zc6 Uo Ut Ur XL XK Yn Uq Up Zc4 WR Uv Us Uu WS Zar Zap Zas Zao Vz Zaq VA Zat Vy VB Zc7 Zau Zc9 Uw Zc8 Zir Zis Zip Ziq Zes Zet UG UF UH UJ UI UK Zdh Zdg V7 V8 V6 Zda VI VJ VH V4 UA XU V1 V3 XV XW UD UC UB XR YX Wg Uy Zdd Zez Zps X0 YZ VE Za8 XX V0 Y0 ZH X2 Ys WI patch Yq Yr YW YV Wc Wb Xj Xk XD V9 Wa X3 Yv YY XY Xt X1 Yp ZN Yt mem_cons Zdf Zdc YT Option.map_some Option.map_none V5 Wx Wz Wy Za9 VG Ww VF YO YP X9 X4 Xa Wd X5 X8 X6 Yw X7 WX XP WZ WU Uz WV WY WW XQ XO YG Wo WH Zgx Zcp Zcy Zbp Zdj Zq7 Xi Xz Va WB Yo YU Yu Y1 ZU YH ZW Xm List.drop_succ_cons List.drop_zero List.drop_nil List.take_succ_cons List.take_zero List.take_nil List.length_cons List.length_nil List.length_append List.cons_append List.nil_append Nat.reduceAdd Nat.reduceEqDiff Nat.reduceLeDiff Nat.reduceLT List.cons.injEq reduceCtorEq eq_self not_true_eq_false not_false_eq_true and_false false_and true_or or_true decide_true decide_false Bool.and_self Bool.and_true Bool.true_and Bool.true_or Bool.or_true Bool.false_or Bool.or_false Bool.false_and Bool.and_false Bool.not_true Bool.not_false cond_true cond_false true_and and_true Zah Zde Zdi reduceIte Nat.add_zero Nat.zero_add Nat.add_sub_cancel Nat.reduceMul Nat.reduceSub Nat.reduceBEq List.map_cons List.map_nil Z8 Z7 Y2 Zi Zb Z9 Ws Zeu Wk ZY ZL Wu Wt XN XM and_assoc exists_and_left D.str.injEq Nat.lt_irrefl Nat.not_lt_zero true_implies false_implies implies_true forall_const ge_iff_le gt_iff_lt Nat.sub_zero List.append_assoc Option.some.injEq AObj.cells.injEq D.int.injEq D.ptr.injEq Int.ofNat.injEq exists_eq_left' D.v.injEq Value.bool.injEq D.agg.injEq Nat.mul_one
section
variable {h : H} {Q : D → H → Prop} {R : ZM}
section
variable {F : XF} {crc : Zm3} {ds de dt : D} {inp : List Nat} {pr ps p e0 n : Nat} {env : Ev} {fp : D} {kind : Nat → Ev → Nat → Nat → Nat → RO V}
def q174 : ZV := Zbg Zf (fun t h => UP ⟨[.cN 4 4],.skip⟩ (act t) h)
 (Z0 (Z1<|fo (Zai 109 (Gt 1)) (St 3)<|fo (Zo 39 [(.int .i64 (.ofNat 0)),(.int .u64 (.ofNat 0)),(.str []),(.v (.slice none 0 0))]) (St 4)<|Z2)
 (Z0 (Z1<|mM 0 7<|mF 5 3 8<|mL 8 9<|mK 125 [(Gt 7),(Gt 9)] 10<|mM 10 5<|Z2)
 (Z0 (Z0 (Z1<|mM 5 11<|fo (Za Zcp .gtr 36 (.tmp 11) (.const (.int .u64 (.ofNat 65536))) (Gt 11) (kD (.int .u64 (.ofNat 65536)))) (St 12)<|Z2)
 (Zg (Gt 12) (Z1<|mM 0 13<|mN 13 14<|mF 0 14 15<|mL 15 16<|mK 57 [(Gt 16),(kI 10)] 17<|Z2) Zx))
 (Z0 (Z1<|mM 0 18<|mN 18 19<|mF 0 19 20<|mL 20 21<|mK 85 [(Gt 21)] 22<|Z2)
 (Z0 (Z1<|fo (Zh (kD (.v (.slice none 0 0)))) (St 6)<|Z2)
 (Z0 (Z0 (Z1<|mM 5 23<|fo (Zh (kD (.int .u64 (.ofNat 0)))) (St 24)<|Z2)
 (ZA 0 (Xy (Z0 (Z1<|fo (Za WH .lss 36 (.tmp 24) (.tmp 23) (Gt 24) (Gt 23)) (St 25)<|Z2)
 (Z0 (Zg (Gt 25) Zx (Vi 0))
 (Z0 (ZA 1 (Z1<|mM 6 26<|mM 0 27<|mF 6 3 28<|mL 28 29<|mK 123 [(Gt 27),(Gt 29)] 30<|fo (Xu 39 1 [(.int .i64 (.ofNat 0)),(.int .u64 (.ofNat 0)),(.str []),(.v (.slice none 0 0))] [(0,4,(Gt 30))]) (St 31)<|fo (u2 (Zbo 39 4 56) (Gt 26) (Gt 31)) (St 32)<|mM 32 6<|Z2))
 (Z1<|fo (Za YS .add 36 (.tmp 24) (.const (.int .u64 (.ofNat 1))) (Gt 24) (kD (.int .u64 (.ofNat 1)))) (St 33)<|mM 33 24<|Z2)))))))
 (Z0 (Z1<|mM 6 34<|mK 229 [(Gt 34)] 35<|fo (ZF 4 (Gt 4) (Gt 35)) p0<|Z2)
 Zv)))))))
def q175 : ZV := Zbg Zf (fun t h => UP ⟨[.cN 4 4],.skip⟩ (act t) h)
 (Z0 (Z1<|fo (Zai 109 (Gt 1)) (St 3)<|fo (Zo 39 [(.int .i64 (.ofNat 0)),(.int .u64 (.ofNat 0)),(.str []),(.v (.slice none 0 0))]) (St 4)<|Z2)
 (Z0 (Z1<|mM 0 7<|mN 7 8<|mF 0 8 9<|mL 9 10<|mK 85 [(Gt 10)] 11<|Z2)
 (Z0 (Z1<|fo (Zh (kD (.v (.slice none 0 0)))) (St 5)<|Z2)
 (Z0 (ZA 0 (Xy (Z0 (Z0 (Xf<|Ze (Zh (Gt 0)) (St 12)<|Ze (u1 Z4 (Gt 12)) (St 13)<|Ze (u1 (Zt 0) (Gt 13)) (St 14)<|Xw 3 [] 1 (Gt 14) (Zl (Gt 14)) (St 15)<|Ze (u1 Z4 (Gt 15)) (St 16)<|Ze (u1 (Zt 2) (Gt 16)) (St 17)<|Xw 6 [] 1 (Gt 17) (Zl (Gt 17)) (St 18)<|Ze (Zh (Gt 0)) (St 19)<|Ze (u1 Z4 (Gt 19)) (St 20)<|Ze (u1 (Zt 0) (Gt 20)) (St 21)<|Xw 10 [0,1,2,3,4,5,6] 1 (Gt 21) (Zl (Gt 21)) (St 22)<|Ze (u1 Z4 (Gt 22)) (St 23)<|Ze (u1 (Zt 3) (Gt 23)) (St 24)<|Xw 13 [0,1,2,3,4,5,6] 1 (Gt 24) (Zl (Gt 24)) (St 25)<|Ze (Za WH .lss 3 (.tmp 18) (.tmp 25) (Gt 18) (Gt 25)) (St 26)<|Xg)
 (Zg (Gt 26) Zx (Vi 0)))
 (ZA 1 (Z0 (Z1<|mM 0 27<|mN 27 28<|mF 0 28 29<|mL 29 30<|mN 30 31<|mF 2 31 32<|mL 32 33<|mM 33 6<|Z2)
 (Z0 (Z1<|mM 5 34<|mM 0 35<|mF 6 3 36<|mL 36 37<|mK 123 [(Gt 35),(Gt 37)] 38<|fo (Xu 39 1 [(.int .i64 (.ofNat 0)),(.int .u64 (.ofNat 0)),(.str []),(.v (.slice none 0 0))] [(0,4,(Gt 38))]) (St 39)<|fo (u2 (Zbo 39 4 56) (Gt 34) (Gt 39)) (St 40)<|mM 40 5<|Z2)
 (Z0 (Z1<|mM 0 41<|mN 41 42<|mF 0 42 43<|mL 43 44<|mN 44 45<|mF 2 45 46<|mL 46 47<|mM 6 48<|fo (Za YG .eql 3 (.tmp 47) (.tmp 48) (Gt 47) (Gt 48)) (St 49)<|Z2)
 (Zg (Gt 49) (Z1<|mM 0 50<|mN 50 51<|mF 0 51 52<|mL 52 53<|mK 57 [(Gt 53),(kI 14)] 54<|Z2) Zx))))))))
 (Z0 (Z1<|mM 5 55<|mK 229 [(Gt 55)] 56<|fo (ZF 4 (Gt 4) (Gt 56)) p0<|Z2)
 Zv)))))
def Fr (d : D) (b : Nat) : Prop := ∀ l,own d l → b ≤ l
theorem Zxl {b : Nat} : Fr (.v (.slice none 0 0)) b := fun l hl => hl.elim
theorem VL {d : D} {b l : Nat} (h : Fr d b) (hl : l < b) : Zfq d l := fun ho => absurd (h l ho) (by omega)
theorem Zne {d d' : D} {b n : Nat} (h : Ztc d' d n) (hf : Fr d b) (hb : b ≤ n) : Fr d' b := fun l hl => by
  by_cases hln : l < n
  · exact hf l (Classical.byContradiction fun hd => (h l hln).2 hd hl)
  · omega
theorem Zrz {h h' : H} {ty : TypeId} {d : D} {n b pr : Nat} (ht : Tp h ty d n) (hf : Fr d b) (hb : pr < b) (hn : h.next ≤ h'.next) (hx : ∀ x,x < h.next → x ≠ pr → hget h'.mem x = hget h.mem x) : Tp h' ty d n := ht.mono hn fun l hl h2 => hx l h2 (by have := hf l hl; omega)
theorem Zr0 {h : H} {o : AObj} {ty : TypeId} {d : D} {n : Nat} (ht : Tp h ty d n) : Tp (Vr h o) ty d n := ht.mono (by simp only [Z8]; omega) fun l _ h2 => Zi (by omega)
theorem Z9j {m n : Nat} (h : m + n < 18446744073709551616) : YS .u64 (.ofNat m) (.ofNat n) = .int .u64 (.ofNat (m + n)) := by
  show D.int .u64 (Zeq .u64 (.ofNat (m + n))) = _
  rw [Wj h]
abbrev IAr (h : H) (pr ps k : Nat) (fp : D) (inp : List Nat) (e0 : Nat) (tc : List D) (g : Nat → Nat → RO V) (X : RO (List V)) (m : Nat) (t1 : Tr D) (h1 : H) : Prop :=
  h.next + 2 ≤ h1.next ∧ (∀ x,x < h.next → x ≠ pr → hget h1.mem x = hget h.mem x) ∧ hget h1.mem h.next = some (.cells 109 tc) ∧ hget h1.mem (h.next + 1) = some (.cells 39 [.int .i64 (.ofNat 0),.int .u64 (.ofNat 0),.str [],.v (.slice none 0 0)]) ∧ Gt 0 t1 = .ptr ps 0 ∧ Gt 3 t1 = .ptr h.next 0 ∧ Gt 4 t1 = .ptr (h.next + 1) 0 ∧ Gt 23 t1 = .int .u64 (.ofNat k) ∧ ∃ d,Gt 6 t1 = d ∧ ∃ j,Gt 24 t1 = .int .u64 (.ofNat j) ∧ j + m = k ∧ ∃ out p' n',Zaj Rep 4 d out ∧ Tp h1 39 d out.length ∧ Fr d (h.next + 2) ∧ out.length = j ∧ hget h1.mem pr = some (RC fp inp p' e0 n') ∧ p' ≤ e0 ∧ n' ≤ 1048576 ∧ Zm2 g m out p' n' = X
theorem vc174 (hT : RT E T F ds de dt) (h174 : T 174 = q174) (ih : VK E T inp ds de dt kind) (hke : Z11 inp kind) (hL : inp.length ≤ 1048576) {size i w : Nat} {lit : Bool} {nm : List Nat} {cs : List XC} {dk : D} (hk : Zaj Zx5 2 dk cs) (at_ : At_ inp pr ps p e0 n env (Y3 ds de dt) h) {u : Nat × Nat} (hu : Zk8 F env (.ofNat i) = u) (hq : KQ (if u.2 = 0 then (if u.1 > 65536 then .err p 10 else (VT () p n).bind fun _ p n => (Zm2 (fun p n => kind w env p e0 n) u.1 [] p n).bind fun l p n => .ok (Zpt l) p n) else if u.2 = 99 then .oof else .err p u.2) (Y3 ds de dt) inp pr e0 h Q R) : VC E T 174 [.ptr ps 0,.agg [.int .i64 (.ofNat 5),.int .i64 (.ofNat size),.v (.bool lit),.str nm,.v (.slice none 0 0),.int .i64 (.ofNat i),.int .i64 (.ofNat w),dk]] h Q R := by
  have hdc := Zm hk
  have hdo := Zs hk
  have hVL := hT.h229
  have hFL : ∀ {h : H} {Q : D → H → Prop} {R : ZM},hget h.mem pr = some (RC (Y3 ds de dt) inp p e0 n) → R (Zhb p 10) h → VC E T 57 [.ptr pr 0,.int .i64 (.ofNat 10)] h Q R := fun a1 a2 => Zrx hT.h57 a1 a2
  obtain ⟨hr,hs,np,ns,ne,hp,he,hn,hl⟩ := at_
  by_cases u9 : u.2 = 99
  · rw [if_neg (by omega),if_pos u9] at hq; exact hq.elim
  have hRK : ∀ {h : H} {Q : D → H → Prop} {R : ZM},hget h.mem pr = some (RC (Y3 ds de dt) inp p e0 n) → hget h.mem ps = some (Zhf pr env) → pr < h.next → ps < h.next → (u.2 = 0 → ∀ h',h.next ≤ h'.next → (∀ l,l < h.next → hget h'.mem l = hget h.mem l) → Q (.int .u64 (.ofNat u.1)) h') → (u.2 ≠ 0 → ∀ h',h.next ≤ h'.next → (∀ l,l < h.next → hget h'.mem l = hget h.mem l) → R (Zhb p u.2) h') → VC E T 125 [.ptr ps 0,.int .i64 (.ofNat i)] h Q R := fun a1 a2 a3 a4 a5 a6 => Zbv hT hu u9 hl a1 a2 a3 a4 a5 a6
  clear hu
  by_cases u0 : u.2 = 0
  case neg =>
    rw [if_neg u0,if_neg u9,ZK] at hq
    have hRE : ∀ {h : H} {Q : D → H → Prop} {R : ZM},hget h.mem pr = some (RC (Y3 ds de dt) inp p e0 n) → hget h.mem ps = some (Zhf pr env) → pr < h.next → ps < h.next → (∀ h',h.next ≤ h'.next → (∀ l,l < h.next → hget h'.mem l = hget h.mem l) → R (Zhb p u.2) h') → VC E T 125 [.ptr ps 0,.int .i64 (.ofNat i)] h Q R := fun a1 a2 a3 a4 a6 => hRK a1 a2 a3 a4 (fun c => absurd c u0) fun _ => a6
    clear hRK
    clear hT hk hFL
    refine Zd h174 ?_
    unfold Zf
    repeat' (with_reducible (first | refine zc ?_ | refine hRE ?_ ?_ ?_ ?_ ?_ | simp (maxSteps := 2000000) (disch := first | exact zd | fail) only [go_sem, -Int.reduceOfNat, *] | (refine zb ?_ ?_ <;> intro _ <;> (try (exfalso; omega))) | (refine hq _ ?_ ?_) | (rintro h1 n1 f1) | exact ze | (intro _; intros) | (refine ⟨_,by assumption, ?_⟩) | refine And.intro ?_ ?_))
  rw [if_pos u0] at hq
  have hRO : ∀ {h : H} {Q : D → H → Prop} {R : ZM},hget h.mem pr = some (RC (Y3 ds de dt) inp p e0 n) → hget h.mem ps = some (Zhf pr env) → pr < h.next → ps < h.next → (∀ h',h.next ≤ h'.next → (∀ l,l < h.next → hget h'.mem l = hget h.mem l) → Q (.int .u64 (.ofNat u.1)) h') → VC E T 125 [.ptr ps 0,.int .i64 (.ofNat i)] h Q R := fun a1 a2 a3 a4 a6 => hRK a1 a2 a3 a4 (fun _ => a6) fun c => absurd u0 c
  clear hRK u9 u0
  generalize u.1 = k at *
  by_cases hs1 : k > 65536
  · rw [if_pos hs1,ZK] at hq
    clear hT hk
    refine Zd h174 ?_
    unfold Zf
    repeat' (with_reducible (first | refine zc ?_ | refine hRO ?_ ?_ ?_ ?_ ?_ | refine hFL ?_ ?_ | simp (maxSteps := 2000000) (disch := first | exact zd | fail) only [go_sem, -Int.reduceOfNat, *,Wj] | (refine zb ?_ ?_ <;> intro _ <;> (try (exfalso; omega))) | (refine hq _ ?_ ?_) | (rintro h1 n1 f1) | exact ze | (intro _; intros) | (refine ⟨_,by assumption, ?_⟩) | refine And.intro ?_ ?_))
  rw [if_neg hs1] at hq
  unfold VT at hq
  by_cases hn1 : n ≥ 1048576
  · rw [if_pos hn1] at hq
    simp only [RO.bind,ZK] at hq
    have hO : Zh8 E T ds de dt inp pr e0 n := Zgm hT (show n = 1048576 by omega)
    clear hT hk
    refine Zd h174 ?_
    unfold Zf
    repeat' (with_reducible (first | refine zc ?_ | refine hRO ?_ ?_ ?_ ?_ ?_ | refine hO (p := p) ?_ ?_ | simp (maxSteps := 2000000) (disch := first | exact zd | fail) only [go_sem, -Int.reduceOfNat, *] | (refine zb ?_ ?_ <;> intro _ <;> (try (exfalso; omega))) | (refine hq _ ?_ ?_) | (rintro h1 n1 f1) | exact ze | (intro _; intros) | (refine ⟨_,by assumption, ?_⟩) | refine And.intro ?_ ?_))
  rw [if_neg hn1] at hq
  simp only [RO.bind] at hq
  have hO : Zmu E T ds de dt inp pr e0 n := Zji hT (show n < 1048576 by omega)
  have hKD : ∀ {p n : Nat} {h : H} {Q : D → H → Prop} {R : ZM},p ≤ e0 → n ≤ 1048576 → hget h.mem pr = some (RC (Y3 ds de dt) inp p e0 n) → hget h.mem ps = some (Zhf pr env) → pr < h.next → ps < h.next → KQ (kind w env p e0 n) (Y3 ds de dt) inp pr e0 h Q R → VC E T 123 [.ptr ps 0,.int .i64 (.ofNat w)] h Q R := fun b1 b2 a1 a2 a3 a4 a5 => ih ⟨a1,a2,a3,a4,ne,b1,he,b2,hl⟩ a5
  have hkl := fun p n hp hn => hke w env p e0 n hp he hn
  clear hT ih hk hke hFL
  generalize hX : Zm2 (fun p n => kind w env p e0 n) k [] p (n + 1) = X at hq
  have hn2 : n + 1 ≤ 1048576 := by omega
  have hk2 : k ≤ 65536 := by omega
  refine Zd h174 ?_
  unfold Zf
  repeat' (with_reducible (first | refine zc ?_ | refine hRO ?_ ?_ ?_ ?_ ?_ | refine hO (p := p) ?_ ?_ | simp (maxSteps := 2000000) (disch := first | exact zd | fail) only [go_sem, -Int.reduceOfNat, *] | (refine zb ?_ ?_ <;> intro _ <;> (try (exfalso; omega))) | (refine Vp (IAr h pr ps k (Y3 ds de dt) inp e0 [.int .i64 (.ofNat 5),.int .i64 (.ofNat size),.v (.bool lit),.str nm,.v (.slice none 0 0),.int .i64 (.ofNat i),.int .i64 (.ofNat w),dk] (fun p n => kind w env p e0 n) X) (n := k) ?_ ?_) | (rintro h1 n1 f1) | (exact ⟨[],Zaj.nil,Tp.nil,Zxl,rfl,hX⟩) | exact ze | (intro _; intros) | (refine ⟨_,by assumption, ?_⟩) | refine And.intro ?_ ?_))
  all_goals
    clear hRO hO hX
    rintro m t1 h1 ⟨gn,gf,m3,m4,g0,g3,g4,g23,d,g6,j,g24,gj,out,p',n',sl,tp,fr,ol,mr,hp',hn',gX⟩
    by_cases hlt : j < k
    · obtain ⟨m',rfl⟩ : ∃ m',m = m' + 1 := ⟨m - 1,by omega⟩
      rw [Zm2] at gX
      have hle := hkl p' n' hp' hn'
      cases hXX : kind w env p' e0 n' with
      | oof => rw [hXX] at gX; simp only [RO.bind] at gX; rw [← gX] at hq; exact hq.elim
      | err a2 b2 =>
        rw [hXX] at gX
        simp only [RO.bind] at gX
        rw [← gX] at hq
        simp only [ZK] at hq
        clear gX hle hkl
        repeat' (with_reducible (first | refine zc ?_ | refine hKD hp' hn' ?_ ?_ ?_ ?_ ?_ | simp (maxSteps := 2000000) (disch := first | assumption | (show Zfq _ _; exact VL (by assumption) (by omega)) | omega | (simp only [Z8,Z7,List.length_cons,List.length_nil,List.length_append,List.length_take,List.length_drop]; omega) | fail) only [go_sem, -Int.reduceOfNat, *,hXX,ZK] | (refine zb ?_ ?_ <;> intro _ <;> (try (exfalso; omega))) | (refine hq _ ?_ ?_) | (rintro h1 n1 f1) | exact ze | (intro _; intros) | (refine ⟨_,by assumption, ?_⟩) | refine And.intro ?_ ?_))
      | ok v p2 n2 =>
        rw [hXX] at gX hle
        simp only [RO.bind] at gX
        obtain ⟨hle1,hle2,hle3⟩ := hle
        clear hq hkl
        repeat' (with_reducible (first | refine zc ?_ | refine hKD hp' hn' ?_ ?_ ?_ ?_ ?_ | refine Zry (F := Rep) (xs := out) (x := v) sl (Zr0 tp2) hrep hrep.four (by omega) on2 (by omega) (by omega) ?_ | simp (maxSteps := 2000000) (disch := first | assumption | (show Zfq _ _; exact VL (by assumption) (by omega)) | omega | (simp only [Z8,Z7,List.length_cons,List.length_nil,List.length_append,List.length_take,List.length_drop]; omega) | fail) only [go_sem, -Int.reduceOfNat, *,hXX,YI,Z9j] | (refine zb ?_ ?_ <;> intro _ <;> (try (exfalso; omega))) | (refine ⟨m',by omega, ?_⟩) | (rintro h2 a b c d2 hrep nn ff mm; obtain ⟨oa,ob,oc,od⟩ := ZT hrep; have tp2 := Zrz tp fr (by omega) nn ff; have on2 := hrep.one) | (rintro id2 cs2 h3 sl2 tp3 nn3 bn3 ff3 if3; have fr3 := Zne if3 fr (by omega)) | (refine ⟨out ++ [v],sl2, ?_, ?_,gX⟩) | exact ze | (intro _; intros) | (refine ⟨_,by assumption, ?_⟩) | refine And.intro ?_ ?_))
    · obtain rfl : j = k := by omega
      obtain rfl : m = 0 := by omega
      rw [Zm2] at gX
      rw [← gX] at hq
      simp only [YI] at hq
      have hdc2 := Zm sl
      have hdo2 := Zs sl
      clear gX hkl hKD
      exact Zy8
end
end
section
variable {h : H} {Q : D → H → Prop} {R : ZM}
section
variable {F : XF} {crc : Zm3} {ds de dt : D} {inp : List Nat} {pr ps p e0 n : Nat} {env : Ev} {fp : D} {kind : Nat → Ev → Nat → Nat → Nat → RO V}
abbrev IRe (h : H) (pr ps : Nat) (fp : D) (inp : List Nat) (e0 : Nat) (tc : List D) (g : Nat → Nat → RO V) (X : RO (List V)) (m : Nat) (t1 : Tr D) (h1 : H) : Prop :=
  h.next + 2 ≤ h1.next ∧ (∀ x,x < h.next → x ≠ pr → hget h1.mem x = hget h.mem x) ∧ hget h1.mem h.next = some (.cells 109 tc) ∧ hget h1.mem (h.next + 1) = some (.cells 39 [.int .i64 (.ofNat 0),.int .u64 (.ofNat 0),.str [],.v (.slice none 0 0)]) ∧ Gt 0 t1 = .ptr ps 0 ∧ Gt 3 t1 = .ptr h.next 0 ∧ Gt 4 t1 = .ptr (h.next + 1) 0 ∧ ∃ d,Gt 5 t1 = d ∧ ∃ out p' n',Zaj Rep 4 d out ∧ Tp h1 39 d out.length ∧ Fr d (h.next + 2) ∧ out.length ≤ p' ∧ hget h1.mem pr = some (RC fp inp p' e0 n') ∧ p' ≤ e0 ∧ n' ≤ 1048576 ∧ Zg4 g e0 m out p' n' = X
theorem vc175 (hT : RT E T F ds de dt) (h175 : T 175 = q175) (ih : VK E T inp ds de dt kind) (hke : Z11 inp kind) (hL : inp.length ≤ 1000000) {f size w : Nat} {lit : Bool} {nm : List Nat} {ex : Int} {cs : List XC} {dk : D} (hk : Zaj Zx5 2 dk cs) (at_ : At_ inp pr ps p e0 n env (Y3 ds de dt) h) (hq : KQ ((VT () p n).bind fun _ p n => (Zg4 (fun p n => kind w env p e0 n) e0 f [] p n).bind fun l p n => .ok (Zpt l) p n) (Y3 ds de dt) inp pr e0 h Q R) : VC E T 175 [.ptr ps 0,.agg [.int .i64 (.ofNat 6),.int .i64 (.ofNat size),.v (.bool lit),.str nm,.v (.slice none 0 0),.int .i64 ex,.int .i64 (.ofNat w),dk]] h Q R := by
  have hdc := Zm hk
  have hdo := Zs hk
  have hVL := hT.h229
  have hFL : ∀ {p n : Nat} {h : H} {Q : D → H → Prop} {R : ZM},hget h.mem pr = some (RC (Y3 ds de dt) inp p e0 n) → R (Zhb p 14) h → VC E T 57 [.ptr pr 0,.int .i64 (.ofNat 14)] h Q R := fun a1 a2 => Zrx hT.h57 a1 a2
  obtain ⟨hr,hs,np,ns,ne,hp,he,hn,hl⟩ := at_
  unfold VT at hq
  by_cases hn1 : n ≥ 1048576
  · rw [if_pos hn1] at hq
    simp only [RO.bind,ZK] at hq
    have hO : Zh8 E T ds de dt inp pr e0 n := Zgm hT (show n = 1048576 by omega)
    clear hT hk hFL
    refine Zd h175 ?_
    unfold Zf
    repeat' (with_reducible (first | refine zc ?_ | refine hO (p := p) ?_ ?_ | simp (maxSteps := 2000000) (disch := first | exact zd | fail) only [go_sem, -Int.reduceOfNat, *] | (refine zb ?_ ?_ <;> intro _ <;> (try (exfalso; omega))) | (refine hq _ ?_ ?_) | (rintro h1 n1 f1) | exact ze | (intro _; intros) | (refine ⟨_,by assumption, ?_⟩) | refine And.intro ?_ ?_))
  rw [if_neg hn1] at hq
  simp only [RO.bind] at hq
  have hO : Zmu E T ds de dt inp pr e0 n := Zji hT (show n < 1048576 by omega)
  have hKD : ∀ {p n : Nat} {h : H} {Q : D → H → Prop} {R : ZM},p ≤ e0 → n ≤ 1048576 → hget h.mem pr = some (RC (Y3 ds de dt) inp p e0 n) → hget h.mem ps = some (Zhf pr env) → pr < h.next → ps < h.next → KQ (kind w env p e0 n) (Y3 ds de dt) inp pr e0 h Q R → VC E T 123 [.ptr ps 0,.int .i64 (.ofNat w)] h Q R := fun b1 b2 a1 a2 a3 a4 a5 => ih ⟨a1,a2,a3,a4,ne,b1,he,b2,hl⟩ a5
  have hkl := fun p n hp hn => hke w env p e0 n hp he hn
  clear hT ih hk hke
  generalize hX : Zg4 (fun p n => kind w env p e0 n) e0 f [] p (n + 1) = X at hq
  have hn2 : n + 1 ≤ 1048576 := by omega
  refine Zd h175 ?_
  unfold Zf
  repeat' (with_reducible (first | refine zc ?_ | refine hO (p := p) ?_ ?_ | simp (maxSteps := 2000000) (disch := first | exact zd | fail) only [go_sem, -Int.reduceOfNat, *] | (refine zb ?_ ?_ <;> intro _ <;> (try (exfalso; omega))) | (refine Vp (IRe h pr ps (Y3 ds de dt) inp e0 [.int .i64 (.ofNat 6),.int .i64 (.ofNat size),.v (.bool lit),.str nm,.v (.slice none 0 0),.int .i64 ex,.int .i64 (.ofNat w),dk] (fun p n => kind w env p e0 n) X) (n := f) ?_ ?_) | (rintro h1 n1 f1) | (exact ⟨[],Zaj.nil,Tp.nil,Zxl,p,by simp,rfl,hp,hX⟩) | exact ze | (intro _; intros) | (refine ⟨_,by assumption, ?_⟩) | refine And.intro ?_ ?_))
  all_goals
    clear hO hX
    rintro m t1 h1 ⟨gn,gf,m3,m4,g0,g3,g4,d,g5,out,p',n',sl,tp,fr,ol,mr,hp',hn',gX⟩
    cases m with
    | zero => rw [Zg4] at gX; rw [← gX] at hq; exact hq.elim
    | succ m' =>
    rw [Zg4] at gX
    by_cases hlt : p' < e0
    · rw [if_pos hlt] at gX
      have hle := hkl p' n' hp' hn'
      cases hXX : kind w env p' e0 n' with
      | oof => rw [hXX] at gX; simp only [RO.bind] at gX; rw [← gX] at hq; exact hq.elim
      | err a2 b2 =>
        rw [hXX] at gX
        simp only [RO.bind] at gX
        rw [← gX] at hq
        simp only [ZK] at hq
        clear gX hle hkl hFL
        repeat' (with_reducible (first | refine zc ?_ | refine hKD hp' hn' ?_ ?_ ?_ ?_ ?_ | simp (maxSteps := 2000000) (disch := first | assumption | (show Zfq _ _; exact VL (by assumption) (by omega)) | omega | (simp only [Z8,Z7,List.length_cons,List.length_nil,List.length_append,List.length_take,List.length_drop]; omega) | fail) only [go_sem, -Int.reduceOfNat, *,hXX,ZK] | (refine zb ?_ ?_ <;> intro _ <;> (try (exfalso; omega))) | (refine hq _ ?_ ?_) | (rintro h1 n1 f1) | exact ze | (intro _; intros) | (refine ⟨_,by assumption, ?_⟩) | refine And.intro ?_ ?_))
      | ok v p2 n2 =>
        rw [hXX] at gX hle
        simp only [RO.bind] at gX
        obtain ⟨hle1,hle2,hle3⟩ := hle
        clear hkl
        by_cases hpp : p2 = p'
        · rw [if_pos hpp] at gX
          rw [← gX] at hq
          simp only [ZK] at hq
          subst hpp
          clear gX
          repeat' (with_reducible (first | refine zc ?_ | refine hKD hp' hn' ?_ ?_ ?_ ?_ ?_ | refine Zry (F := Rep) (xs := out) (x := v) sl (Zr0 tp2) hrep hrep.four (by omega) on2 (by omega) (by omega) ?_ | refine hFL (p := p2) (n := n2) ?_ ?_ | simp (maxSteps := 2000000) (disch := first | assumption | (show Zfq _ _; exact VL (by assumption) (by omega)) | omega | (simp only [Z8,Z7,List.length_cons,List.length_nil,List.length_append,List.length_take,List.length_drop]; omega) | fail) only [go_sem, -Int.reduceOfNat, *,hXX,YI] | (refine zb ?_ ?_ <;> intro _ <;> (try (exfalso; omega))) | (refine hq _ ?_ ?_) | (rintro h2 a b c d2 hrep nn ff mm; obtain ⟨oa,ob,oc,od⟩ := ZT hrep; have tp2 := Zrz tp fr (by omega) nn ff; have on2 := hrep.one) | (rintro id2 cs2 h3 sl2 tp3 nn3 bn3 ff3 if3; have fr3 := Zne if3 fr (by omega)) | exact ze | (intro _; intros) | (refine ⟨_,by assumption, ?_⟩) | refine And.intro ?_ ?_))
        · rw [if_neg hpp] at gX
          clear hq hFL
          repeat' (with_reducible (first | refine zc ?_ | refine hKD hp' hn' ?_ ?_ ?_ ?_ ?_ | refine Zry (F := Rep) (xs := out) (x := v) sl (Zr0 tp2) hrep hrep.four (by omega) on2 (by omega) (by omega) ?_ | simp (maxSteps := 2000000) (disch := first | assumption | (show Zfq _ _; exact VL (by assumption) (by omega)) | omega | (simp only [Z8,Z7,List.length_cons,List.length_nil,List.length_append,List.length_take,List.length_drop]; omega) | fail) only [go_sem, -Int.reduceOfNat, *,hXX,YI] | (refine zb ?_ ?_ <;> intro _ <;> (try (exfalso; omega))) | (refine ⟨m',by omega, ?_⟩) | (rintro h2 a b c d2 hrep nn ff mm; obtain ⟨oa,ob,oc,od⟩ := ZT hrep; have tp2 := Zrz tp fr (by omega) nn ff; have on2 := hrep.one) | (rintro id2 cs2 h3 sl2 tp3 nn3 bn3 ff3 if3; have fr3 := Zne if3 fr (by omega)) | (refine ⟨out ++ [v],sl2, ?_, ?_,gX⟩) | (exact ⟨p2,by omega,rfl,hle2,gX⟩) | exact ze | (intro _; intros) | (refine ⟨_,by assumption, ?_⟩) | refine And.intro ?_ ?_))
    · rw [if_neg hlt] at gX
      rw [← gX] at hq
      simp only [YI] at hq
      have hdc2 := Zm sl
      have hdo2 := Zs sl
      clear gX hkl hKD hFL
      exact Zy8
end
end
section
variable {h : H} {Q : D → H → Prop} {R : ZM}
section
variable {p : D → Tr D → Tr D} {k : FR} {kd : FD} {recs : List Rec} {t : Tr D} {h : H} {Q : UU} {R : ZM} {g1 g2 g3 : Tr D → D}
def Zw3 (z x k : D) (h : H) : O D := Ze9 1 z (.d x) (.d k) false E Zu (act .nil) h
def Zw2 (m k x : D) (h : H) : O D := Zgf 1 (.d m) (.d k) (.d x) E Zu (act .nil) h
theorem Znl {z : D} : VD E T (Ze (u2 (fun x k => Ze9 1 z x k false) g1 g2) p kd) recs t h Q R ↔ vD E T (Zw3 (E := E) z (g1 t) (g2 t) h) p kd recs t Q R := VQ fun _ => rfl
theorem Zfi : VR E T (fo (u3 (Zgf 1) g1 g2 g3) p k) t h Q R ↔ vO E T (Zw2 (E := E) (g1 t) (g2 t) (g3 t) h) p k t Q R := Xc fun _ => rfl
def lkS (o : Option AObj) (z : D) (s : List Nat) (h : H) : O D :=
  match o with
  | some (.map es) => match Xr (.str s) es with
    | some (some d) => .ok d h
    | some none => .ok z h
    | none => .fail "lookup: key"
  | _ => .fail "lookup"
theorem Zlq {l : Nat} {s : List Nat} {z : D} : Zw3 (E := E) z (.map l) (.str s) h = lkS (hget h.mem l) z s h := by
  rw [ZO]
  simp only [Zw3,Zid,U7,AAct.eval,Zab,cond_true,lkS]
  cases h.mem.get l with
  | none => rfl
  | some o => cases o <;> first | rfl | (rename_i es; simp only []; cases Xr (.str s) es with
    | none => rfl
    | some o => cases o <;> rfl)
def msS (o : Option AObj) (l : Nat) (s : List Nat) (d : D) (h : H) : O D :=
  match o with
  | some (.map es) => match Ux (.str s) d es with
    | some es => .ok ZD (YF h l (.map es))
    | none => .fail "mapUpdate: key"
  | _ => .fail "mapUpdate"
theorem Zdx {l : Nat} {s : List Nat} {d : D} : Zw2 (E := E) (.map l) (.str s) d h = msS (hget h.mem l) l s d h := by
  rw [ZO]
  simp only [Zw2,Zic,Za2,AAct.eval,Zab,cond_true,msS,UN]
  cases h.mem.get l with
  | none => rfl
  | some o => cases o <;> rfl
end
def Zwc : Al → List (D × D) → Prop
  | [],es => es = []
  | (s,p,q,v) :: r,es => ∃ a b c d es',es = (.str s,.agg [.int .i64 (.ofNat p),.int .i64 (.ofNat q),a,b,c,d]) :: es' ∧ Rep v [a,b,c,d] ∧ Zwc r es'
abbrev Z6 : D := .agg [.int .i64 (.ofNat 0),.int .i64 (.ofNat 0),.int .i64 (.ofNat 0),.int .u64 (.ofNat 0),.str [],.v (.slice none 0 0)]
theorem Zwc.look {s : List Nat} : ∀ {al : Al} {es : List (D × D)},Zwc al es → ∃ a b c d,Rep (WJ s al).2.2 [a,b,c,d] ∧ ∀ h,lkS (some (.map es)) Z6 s h = .ok (.agg [.int .i64 (.ofNat (WJ s al).1),.int .i64 (.ofNat (WJ s al).2.1),a,b,c,d]) h
  | [],_,h => by
    cases h
    exact ⟨_,_,_,_,Zhi,fun _ => rfl⟩
  | (x,p,q,v) :: r,_,h => by
    obtain ⟨a,b,c,d,es',rfl,hv,hr⟩ := h
    unfold WJ
    by_cases e : x = s
    · subst e
      rw [if_pos rfl]
      exact ⟨a,b,c,d,hv,fun h => by simp only [lkS,Xr,Wv,Zrp]⟩
    · rw [if_neg e]
      obtain ⟨a',b',c',d',h1,h2⟩ := Zwc.look (s := s) hr
      refine ⟨a',b',c',d',h1,fun h => ?_⟩
      have hb : UQ s x = false := by rw [Xm]; exact decide_eq_false fun c => e c.symm
      rw [← h2 h]
      simp only [lkS,Xr,Wv,hb]
theorem Zwc.set {s : List Nat} {p q : Nat} {v : V} {a b c d : D} (hv : Rep v [a,b,c,d]) : ∀ {al : Al} {es : List (D × D)},Zwc al es → Zmt s al = false → ∃ es',Ux (.str s) (.agg [.int .i64 (.ofNat p),.int .i64 (.ofNat q),a,b,c,d]) es = some es' ∧ Zwc (al ++ [(s,p,q,v)]) es'
  | [],_,h,_ => by
    cases h
    exact ⟨_,rfl,a,b,c,d,[],rfl,hv,rfl⟩
  | (x,p',q',v') :: r,_,h,hh => by
    obtain ⟨a',b',c',d',es',rfl,hv',hr⟩ := h
    unfold Zmt at hh
    by_cases e : x = s
    · rw [if_pos e] at hh; cases hh
    · rw [if_neg e] at hh
      obtain ⟨es2,h1,h2⟩ := Zwc.set hv hr hh
      have hb : UQ s x = false := by rw [Xm]; exact decide_eq_false fun c => e c.symm
      exact ⟨(.str x,.agg [.int .i64 (.ofNat p'),.int .i64 (.ofNat q'),a',b',c',d']) :: es2,by simp only [Ux,Wv,hb,h1],a',b',c',d',es2,rfl,hv',h2⟩
theorem Zig {s : List Nat} {l : Nat} {d : D} {es es' : List (D × D)} (h1 : Ux (.str s) d es = some es') {h : H} : msS (some (.map es)) l s d h = .ok ZD (YF h l (.map es')) := by simp only [msS,h1]
def q89 : ZV := Zbg Zf (fun t h => .ok (.tup []) h)
 (Z0 (Z1<|fo (Zai 196 (Gt 2)) (St 6)<|Z2)
 (Z0 (Z1<|mM 1 8<|fo (u1 (Ze7 .not) (Gt 8)) (St 9)<|Z2)
 (Zg (Gt 9) (Z1<|mF 0 6 10<|mL 10 11<|mM 3 12<|fo (YQ [(.int .i64 (.ofNat 0)),(.int .i64 (.ofNat 0))] [(0,1,(Gt 11)),(1,1,(Gt 12))]) (St 13)<|fo (u1 (U5 143) (Gt 13)) (St 14)<|fo (u1 US (Gt 14)) p0<|Z2) Zx)))
def q88 : ZV := Zbg Zf (fun t h => UP ⟨[.cN 6 4],.skip⟩ (act t) h)
 (Z0 (Z1<|fo (Zai 104 (Gt 1)) (St 4)<|fo (Zo 39 [(.int .i64 (.ofNat 0)),(.int .u64 (.ofNat 0)),(.str []),(.v (.slice none 0 0))]) (St 6)<|Z2)
 (Z0 (Z1<|mM 0 8<|mN 8 9<|mF 0 9 10<|mL 10 11<|mN 11 12<|mF 2 12 13<|mL 13 14<|fo (YQ [(.int .i64 (.ofNat 0)),(.int .i64 (.ofNat 0)),(.int .i64 (.ofNat 0)),(.int .u64 (.ofNat 0)),(.str []),(.v (.slice none 0 0))] [(0,1,(Gt 14))]) (St 15)<|fo (Zo 196 [(.int .i64 (.ofNat 0)),(.int .i64 (.ofNat 0)),(.int .i64 (.ofNat 0)),(.int .u64 (.ofNat 0)),(.str []),(.v (.slice none 0 0))]) (St 7)<|fo (ZF 6 (Gt 7) (Gt 15)) p0<|Z2)
 (Z0 (Z1<|mM 0 16<|mF 1 4 17<|mL 17 18<|mK 123 [(Gt 16),(Gt 18)] 19<|mF 2 7 20<|fo (ZF 4 (Gt 20) (Gt 19)) p0<|Z2)
 (Z0 (Z1<|mM 0 21<|mN 21 22<|mF 0 22 23<|mL 23 24<|mN 24 25<|mF 2 25 26<|mL 26 27<|mF 1 7 28<|mS 28 (Gt 27)<|Z2)
 (Z0 (Z1<|mM 2 29<|mF 0 4 30<|mL 30 31<|fo (YB 6 (Gt 7)) (St 32)<|fo (u3 (Zgf 1) (Gt 29) (Gt 31) (Gt 32)) p0<|Z2)
 (Z0 (Z0 (Xf<|Ze (Zh (Gt 0)) (St 33)<|Ze (u1 Z4 (Gt 33)) (St 34)<|Ze (u1 (Zt 0) (Gt 34)) (St 35)<|Xw 3 [] 1 (Gt 35) (Zl (Gt 35)) (St 36)<|Ze (u1 Z4 (Gt 36)) (St 37)<|Ze (u1 (Zt 0) (Gt 37)) (St 38)<|Xw 6 [] 1 (Gt 38) (Zl (Gt 38)) (St 39)<|Ze (u1 Z4 (Gt 39)) (St 40)<|Ze (u1 (Zt 3) (Gt 40)) (St 41)<|Xw 9 [] 1 (Gt 41) (Zl (Gt 41)) (St 42)<|Ze (u1 (Zt 1) (Gt 4)) (St 43)<|Xw 11 [0,1,2,3,4,5,6,7,8,9] 1 (Gt 43) (Zl (Gt 43)) (St 44)<|Ze (u2 (ZZ 8) (Gt 42) (Gt 44)) (St 45)<|Ze (u1 (Zt 0) (Gt 45)) (St 46)<|Xw 14 [] 1 (Gt 46) (Zl (Gt 46)) (St 47)<|Ze (mQ 106 47 0) (St 48)<|Xg)
 (Zg (Gt 48) (Xf<|Ze (Zh (Gt 0)) (St 49)<|Ze (Zh (Gt 0)) (St 50)<|Ze (u1 Z4 (Gt 50)) (St 51)<|Ze (u1 (Zt 1) (Gt 51)) (St 52)<|Xw 4 [0] 1 (Gt 52) (Zl (Gt 52)) (St 53)<|Ze (u1 (Zt 0) (Gt 4)) (St 54)<|Xw 6 [0,1,2,3,4] 1 (Gt 54) (Zl (Gt 54)) (St 55)<|Ze (u1 (Zt 2) (Gt 7)) (St 56)<|Ze (u1 (Zt 1) (Gt 56)) (St 57)<|Xw 9 [0,1,2,3,4,5,6] 1 (Gt 57) (Zl (Gt 57)) (St 58)<|Zju 10 [0] (Zw 86 [(Gt 53),(Gt 55),(Gt 58)]) (St 59)<|Ze (u1 Z4 (Gt 49)) (St 60)<|Ze (u1 (Zt 1) (Gt 60)) (St 61)<|Zg8 13 [] (ZF 1 (Gt 61) (Gt 59)) p0<|Xg) Zx))
 (Z0 (Z0 (Z1<|mF 2 4 62<|mL 62 63<|fo (mQ 101 63 3) (St 64)<|mM 64 65<|Yl (Gt 65) false (u1 (Zt 2) (Gt 4)) (St 66)<|Yl (Gt 65) false (Zl (Gt 66)) (St 67)<|Yl (Gt 65) false (mQ 101 67 4) (St 68)<|fo (Yb (Gt 65) (kD (.v (.bool true))) (Gt 68)) (St 69)<|Z2)
 (Zg (Gt 69) (Z1<|mM 0 70<|fo (YB 9 (Gt 4)) (St 71)<|fo (YB 6 (Gt 7)) (St 72)<|mM 2 73<|mK 124 [(Gt 70),(Gt 71),(Gt 72),(Gt 73)] 74<|Z2) Zx))
 (Z0 (Z0 (Z1<|mF 5 4 75<|mL 75 76<|fo (Za Zcy .geq 3 (.tmp 76) (.const (.int .i64 (.ofNat 0))) (Gt 76) (kI 0)) (St 77)<|Z2)
 (Zg (Gt 77) (Xf<|Ze (Zh (Gt 0)) (St 78)<|Ze (Zh (Gt 0)) (St 79)<|Ze (u1 (Zt 5) (Gt 4)) (St 80)<|Xw 3 [0,1] 1 (Gt 80) (Zl (Gt 80)) (St 81)<|Zg8 4 [0] (Zw 125 [(Gt 79),(Gt 81)]) (St 82)<|Ze (Za Wo .neq 36 (.tmp 82) (.const (.int .u64 (.ofNat 0))) (Gt 82) (kD (.int .u64 (.ofNat 0)))) (St 83)<|Xw 6 [0,1,2,3,4,5] 6 (Gt 7) (YB 6 (Gt 7)) (St 84)<|Zju 7 [] (Zw 89 [(Gt 78),(Gt 83),(Gt 84),(kI 22)]) (St 85)<|Xg) Zx))
 (Z0 (Z1<|mF 2 7 86<|fo (YB 4 (Gt 86)) (St 87)<|fo (ZF 4 (Gt 6) (Gt 87)) p0<|Z2)
 Zv)))))))))
section
variable {F : XF} {crc : Zm3} {ds de dt : D} {inp : List Nat} {pr ps p e0 n : Nat} {env : Ev} {fp : D} {kind : Nat → Ev → Nat → Nat → Nat → RO V}
theorem vc89 (h89 : T 89 = q89) {u : Bool} {er pp qq : Nat} {a b c d : D} (oa : a.one = true ∧ b.one = true ∧ c.one = true ∧ d.one = true) (h1 : u = true → ∀ h',h.next ≤ h'.next → (∀ l,l < h.next → hget h'.mem l = hget h.mem l) → Q (.tup []) h') (h2 : u = false → ∀ h',h.next ≤ h'.next → (∀ l,l < h.next → hget h'.mem l = hget h.mem l) → R (Zhb pp er) h') : VC E T 89 [.ptr ps 0,.v (.bool u),.agg [.int .i64 (.ofNat pp),.int .i64 (.ofNat qq),a,b,c,d],.int .i64 (.ofNat er)] h Q R := by
  obtain ⟨oa,ob,oc,od⟩ := oa
  cases u with
  | true =>
    have hq := h1 rfl
    clear h1 h2
    refine Zd h89 ?_
    unfold Zf
    repeat' (with_reducible (first | refine zc ?_ | simp (maxSteps := 2000000) (disch := first | exact zd | fail) only [go_sem, -Int.reduceOfNat, *] | (refine zb ?_ ?_ <;> intro _ <;> (try (exfalso; omega))) | (show Q _ _; refine hq _ ?_ ?_) | exact ze | (intro _; intros) | (refine ⟨_,by assumption, ?_⟩) | refine And.intro ?_ ?_))
  | false =>
    have hq := h2 rfl
    clear h1 h2
    refine Zd h89 ?_
    unfold Zf
    repeat' (with_reducible (first | refine zc ?_ | simp (maxSteps := 2000000) (disch := first | exact zd | fail) only [go_sem, -Int.reduceOfNat, *] | (refine zb ?_ ?_ <;> intro _ <;> (try (exfalso; omega))) | (refine hq _ ?_ ?_) | exact ze | (intro _; intros) | (refine ⟨_,by assumption, ?_⟩) | refine And.intro ?_ ?_))
end
end
section
variable {h : H} {Q : D → H → Prop} {R : ZM}
section
variable {F : XF} {crc : Zm3} {ds de dt : D} {inp : List Nat} {pr ps p e0 n : Nat} {env : Ev} {fp : D} {kind : Nat → Ev → Nat → Nat → Nat → RO V}
abbrev itC (y : XI) : List D := [.str y.nm,.int .i64 (.ofNat y.ty),.int .i64 (.ofNat y.der),.str y.a,.str y.b,.int .i64 y.wh,.int .i64 (.ofNat 0),.v (.bool false),.v (.slice none 0 0)]
def FQ (x : RO (V × Ev × Al)) (fp : D) (inp : List Nat) (pr ps pm e0 : Nat) (h : H) (Q : D → H → Prop) (R : ZM) : Prop :=
  match x with
  | .ok (v,env,al) p n => ∀ h' a b c d es,Rep v [a,b,c,d] → h.next ≤ h'.next → (∀ x,x < h.next → x ≠ pr → x ≠ ps → x ≠ pm → hget h'.mem x = hget h.mem x) → hget h'.mem pr = some (RC fp inp p e0 n) → hget h'.mem ps = some (Zhf pr env) → hget h'.mem pm = some (.map es) → Zwc al es → Q (.agg [a,b,c,d]) h'
  | .err p e => ∀ h',h.next ≤ h'.next → (∀ x,x < h.next → x ≠ pr → x ≠ ps → x ≠ pm → hget h'.mem x = hget h.mem x) → R (Zhb p e) h'
  | .oof => False
variable {pm : Nat} {al : Al} {es : List (D × D)}
theorem Zwb {v : V} : FQ (.ok (v,env,al) p n) fp inp pr ps pm e0 h Q R ↔ ∀ h' a b c d es,Rep v [a,b,c,d] → h.next ≤ h'.next → (∀ x,x < h.next → x ≠ pr → x ≠ ps → x ≠ pm → hget h'.mem x = hget h.mem x) → hget h'.mem pr = some (RC fp inp p e0 n) → hget h'.mem ps = some (Zhf pr env) → hget h'.mem pm = some (.map es) → Zwc al es → Q (.agg [a,b,c,d]) h' := Iff.rfl
theorem Ztd {e : Nat} : FQ (.err p e) fp inp pr ps pm e0 h Q R ↔ ∀ h',h.next ≤ h'.next → (∀ x,x < h.next → x ≠ pr → x ≠ ps → x ≠ pm → hget h'.mem x = hget h.mem x) → R (Zhb p e) h' := Iff.rfl
theorem vc88 (hT : RT E T F ds de dt) (h88 : T 88 = q88) (h89 : T 89 = q89) (h86 : T 86 = YK Zdt) (ih : VK E T inp ds de dt kind) {y : XI} (hder : y.der ≤ 2) (hwh : y.wh = .negSucc 0 ∨ ∃ a,y.wh = .ofNat a) {t : XT'} (hty : F.ts[y.ty]? = some t) (at_ : At_ inp pr ps p e0 n env (Y3 ds de dt) h) (hl2 : env.length < 1000) (hm : hget h.mem pm = some (.map es)) (hal : Zwc al es) (npm : pm < h.next) (pm1 : pm ≠ pr) (pm2 : pm ≠ ps) (hq : FQ (UL F crc inp kind y e0 env al p n) (Y3 ds de dt) inp pr ps pm e0 h Q R) : VC E T 88 [.ptr ps 0,.agg (itC y),.map pm] h Q R := by
  unfold UL at hq
  cases hhas : Zmt y.nm al with
  | true => rw [hhas,if_pos rfl] at hq; exact hq.elim
  | false =>
  rw [hhas,if_neg (by decide)] at hq
  obtain ⟨hr,hs,np,ns,ne,hp,he,hn,hl⟩ := at_
  have hKD : ∀ {h : H} {Q : D → H → Prop} {R : ZM},hget h.mem pr = some (RC (Y3 ds de dt) inp p e0 n) → hget h.mem ps = some (Zhf pr env) → pr < h.next → ps < h.next → KQ (kind y.ty env p e0 n) (Y3 ds de dt) inp pr e0 h Q R → VC E T 123 [.ptr ps 0,.int .i64 (.ofNat y.ty)] h Q R := fun a1 a2 a3 a4 a5 => ih ⟨a1,a2,a3,a4,ne,hp,he,hn,hl⟩ a5
  have ne' : pr ≠ ps := fun c => ne c.symm
  have pm1' : pr ≠ pm := fun c => pm1 c.symm
  have pm2' : ps ≠ pm := fun c => pm2 c.symm
  cases hXX : kind y.ty env p e0 n with
  | oof => rw [hXX] at hq; exact hq.elim
  | err p' e' =>
    rw [hXX] at hq
    simp only [RO.bind,Ztd] at hq
    clear ih hT hwh hal
    refine Zd h88 ?_
    unfold Zf
    repeat' (with_reducible (first | refine zc ?_ | refine hKD ?_ ?_ ?_ ?_ ?_ | simp (maxSteps := 2000000) (disch := first | exact zd | fail) only [go_sem, -Int.reduceOfNat, *,hXX,ZK] | (refine zb ?_ ?_ <;> intro _ <;> (try (exfalso; omega))) | (refine hq _ ?_ ?_) | (rintro h1 n1 f1) | exact ze | (intro _; intros) | (refine ⟨_,by assumption, ?_⟩) | refine And.intro ?_ ?_))
  | ok v q m =>
  rw [hXX] at hq
  simp only [RO.bind] at hq
  obtain ⟨k,nv,bs,l⟩ := v
  obtain ⟨c,r,hc,hz,hix⟩ := Zba hT hty
  obtain ⟨dk,rfl,hk⟩ := hc
  have htc := Zm hT.rowT
  have hto := Zs hT.rowT
  have hi : Zg6 F y.ty = decide (t.k = 0) := by simp only [Zg6,hty]
  rw [if_neg (by omega),if_pos hder,hi] at hq
  have h3 : ¬ y.der = 3 := by omega
  have h4 : ¬ y.der = 4 := by omega
  have he1 := Zgu env
  have he2 := Zb4 env
  have hl3 : env.length ≤ 1000000 := by omega
  have hset := fun a b c d (hrep : Rep (.mk k nv bs l) [a,b,c,d]) => Zwc.set (s := y.nm) (p := p) (q := q) hrep hal hhas
  clear hk hz hder hi hhas hal
  by_cases hk0 : t.k = 0
  · rw [decide_eq_true hk0] at hq
    simp only [Bool.false_eq_true,if_true,if_false,V.n] at hq
    have hf1 := Zgu (env ++ [(y.nm,nv)])
    have hf2 := Zb4 (env ++ [(y.nm,nv)])
    rcases hwh with hw | ⟨a,hw⟩
    · rw [hw] at hq
      simp only [Zwb] at hq
      clear hT ih
      refine Zd h88 ?_
      unfold Zf
      repeat' (with_reducible (first | refine zc ?_ | refine hKD ?_ ?_ ?_ ?_ ?_ | refine vc86 h86 hl3 ?_ | simp (maxSteps := 2000000) (disch := first | exact zd | fail) only [go_sem, -Int.reduceOfNat, *,hXX,YI,Zfi,Zdx,Zgq,hk0] | (refine zb ?_ ?_ <;> intro _ <;> (try (exfalso; omega))) | (show Q _ _; refine hq _ _ _ _ _ es2 hrep ?_ ?_ ?_ ?_ ?_ al2) | (rintro h1 a b c d hrep n1 f1 m1; obtain ⟨oa,ob,oc,od⟩ := ZT hrep; obtain ⟨es2,s2,al2⟩ := hset a b c d hrep; have s3 := fun l h => Zig (l := l) (h := h) s2; obtain ⟨L,hcc,_,hsl⟩ := hrep.inv; have sd := Zcf hsl; simp only [List.cons.injEq,and_true] at hcc; obtain ⟨rfl,rfl,rfl,rfl⟩ := hcc; clear s2) | exact ze | (intro _; intros) | (refine ⟨_,by assumption, ?_⟩) | refine And.intro ?_ ?_))
    · rw [hw] at hq
      simp only [] at hq
      have hel : (env ++ [(y.nm,nv)]).length ≤ 1000 := by simp only [List.length_append,List.length_cons,List.length_nil]; omega
      generalize hu : Zk8 F (env ++ [(y.nm,nv)]) (.ofNat a) = u at hq
      by_cases u0 : u.2 = 0
      case neg => rw [if_neg u0] at hq; exact hq.elim
      have u9 : u.2 ≠ 99 := by omega
      have hRK : ∀ {h : H} {Q : D → H → Prop} {R : ZM},hget h.mem pr = some (RC (Y3 ds de dt) inp q e0 m) → hget h.mem ps = some (Zhf pr (env ++ [(y.nm,nv)])) → pr < h.next → ps < h.next → (u.2 = 0 → ∀ h',h.next ≤ h'.next → (∀ l,l < h.next → hget h'.mem l = hget h.mem l) → Q (.int .u64 (.ofNat u.1)) h') → (u.2 ≠ 0 → ∀ h',h.next ≤ h'.next → (∀ l,l < h.next → hget h'.mem l = hget h.mem l) → R (Zhb q u.2) h') → VC E T 125 [.ptr ps 0,.int .i64 (.ofNat a)] h Q R := fun a1 a2 a3 a4 a5 a6 => Zbv hT hu u9 hel a1 a2 a3 a4 a5 a6
      have hMU : ∀ {z : Bool} {a b c d : D} {h : H} {Q : D → H → Prop} {R : ZM},a.one = true → b.one = true → c.one = true → d.one = true → (z = true → ∀ h',h.next ≤ h'.next → (∀ l,l < h.next → hget h'.mem l = hget h.mem l) → Q (.tup []) h') → (z = false → ∀ h',h.next ≤ h'.next → (∀ l,l < h.next → hget h'.mem l = hget h.mem l) → R (Zhb p 22) h') → VC E T 89 [.ptr ps 0,.v (.bool z),.agg [.int .i64 (.ofNat p),.int .i64 (.ofNat q),a,b,c,d],.int .i64 (.ofNat 22)] h Q R := fun o1 o2 o3 o4 a1 a2 => vc89 h89 ⟨o1,o2,o3,o4⟩ a1 a2
      clear hu hT ih hel
      rw [if_pos u0] at hq
      by_cases uz : u.1 = 0
      · rw [if_pos uz] at hq
        simp only [Ztd] at hq
        refine Zd h88 ?_
        unfold Zf
        repeat' (with_reducible (first | refine zc ?_ | refine hKD ?_ ?_ ?_ ?_ ?_ | refine vc86 h86 hl3 ?_ | refine hRK ?_ ?_ ?_ ?_ ?_ ?_ | refine hMU ?_ ?_ ?_ ?_ ?_ ?_ | simp (maxSteps := 2000000) (disch := first | exact zd | fail) only [go_sem, -Int.reduceOfNat, *,hXX,YI,Zfi,Zdx,Zgq,hk0,hw,uz] | (refine zb ?_ ?_ <;> intro _ <;> (try (exfalso; omega))) | (exfalso; omega) | (exfalso; exact absurd u0 (by assumption)) | (refine hq _ ?_ ?_) | (rintro h1 a b c d hrep n1 f1 m1; obtain ⟨oa,ob,oc,od⟩ := ZT hrep; obtain ⟨es2,s2,al2⟩ := hset a b c d hrep; have s3 := fun l h => Zig (l := l) (h := h) s2; obtain ⟨L,hcc,_,hsl⟩ := hrep.inv; have sd := Zcf hsl; simp only [List.cons.injEq,and_true] at hcc; obtain ⟨rfl,rfl,rfl,rfl⟩ := hcc; clear s2) | (intro uu) | (rintro h2 n2 f2) | exact ze | (intro _; intros) | (refine ⟨_,by assumption, ?_⟩) | refine And.intro ?_ ?_))
      · rw [if_neg uz] at hq
        simp only [Zwb] at hq
        refine Zd h88 ?_
        unfold Zf
        repeat' (with_reducible (first | refine zc ?_ | refine hKD ?_ ?_ ?_ ?_ ?_ | refine vc86 h86 hl3 ?_ | refine hRK ?_ ?_ ?_ ?_ ?_ ?_ | refine hMU ?_ ?_ ?_ ?_ ?_ ?_ | simp (maxSteps := 2000000) (disch := first | exact zd | fail) only [go_sem, -Int.reduceOfNat, *,hXX,YI,Zfi,Zdx,Zgq,hk0,hw,uz] | (refine zb ?_ ?_ <;> intro _ <;> (try (exfalso; omega))) | (exfalso; omega) | (exfalso; exact absurd u0 (by assumption)) | (show Q _ _; refine hq _ _ _ _ _ es2 hrep ?_ ?_ ?_ ?_ ?_ al2) | (rintro h1 a b c d hrep n1 f1 m1; obtain ⟨oa,ob,oc,od⟩ := ZT hrep; obtain ⟨es2,s2,al2⟩ := hset a b c d hrep; have s3 := fun l h => Zig (l := l) (h := h) s2; obtain ⟨L,hcc,_,hsl⟩ := hrep.inv; have sd := Zcf hsl; simp only [List.cons.injEq,and_true] at hcc; obtain ⟨rfl,rfl,rfl,rfl⟩ := hcc; clear s2) | (intro uu) | (rintro h2 n2 f2) | exact ze | (intro _; intros) | (refine ⟨_,by assumption, ?_⟩) | refine And.intro ?_ ?_))
  · rw [decide_eq_false hk0] at hq
    simp only [Bool.false_eq_true,if_true,if_false,V.n] at hq
    have hf1 := Zgu env
    have hf2 := Zb4 env
    rcases hwh with hw | ⟨a,hw⟩
    · rw [hw] at hq
      simp only [Zwb] at hq
      clear hT ih
      refine Zd h88 ?_
      unfold Zf
      repeat' (with_reducible (first | refine zc ?_ | refine hKD ?_ ?_ ?_ ?_ ?_ | simp (maxSteps := 2000000) (disch := first | exact zd | fail) only [go_sem, -Int.reduceOfNat, *,hXX,YI,Zfi,Zdx,Zgq,hk0] | (refine zb ?_ ?_ <;> intro _ <;> (try (exfalso; omega))) | (show Q _ _; refine hq _ _ _ _ _ es2 hrep ?_ ?_ ?_ ?_ ?_ al2) | (rintro h1 a b c d hrep n1 f1 m1; obtain ⟨oa,ob,oc,od⟩ := ZT hrep; obtain ⟨es2,s2,al2⟩ := hset a b c d hrep; have s3 := fun l h => Zig (l := l) (h := h) s2; obtain ⟨L,hcc,_,hsl⟩ := hrep.inv; have sd := Zcf hsl; simp only [List.cons.injEq,and_true] at hcc; obtain ⟨rfl,rfl,rfl,rfl⟩ := hcc; clear s2) | exact ze | (intro _; intros) | (refine ⟨_,by assumption, ?_⟩) | refine And.intro ?_ ?_))
    · rw [hw] at hq
      simp only [] at hq
      have hel : env.length ≤ 1000 := by omega
      generalize hu : Zk8 F env (.ofNat a) = u at hq
      by_cases u0 : u.2 = 0
      case neg => rw [if_neg u0] at hq; exact hq.elim
      have u9 : u.2 ≠ 99 := by omega
      have hRK : ∀ {h : H} {Q : D → H → Prop} {R : ZM},hget h.mem pr = some (RC (Y3 ds de dt) inp q e0 m) → hget h.mem ps = some (Zhf pr env) → pr < h.next → ps < h.next → (u.2 = 0 → ∀ h',h.next ≤ h'.next → (∀ l,l < h.next → hget h'.mem l = hget h.mem l) → Q (.int .u64 (.ofNat u.1)) h') → (u.2 ≠ 0 → ∀ h',h.next ≤ h'.next → (∀ l,l < h.next → hget h'.mem l = hget h.mem l) → R (Zhb q u.2) h') → VC E T 125 [.ptr ps 0,.int .i64 (.ofNat a)] h Q R := fun a1 a2 a3 a4 a5 a6 => Zbv hT hu u9 hel a1 a2 a3 a4 a5 a6
      have hMU : ∀ {z : Bool} {a b c d : D} {h : H} {Q : D → H → Prop} {R : ZM},a.one = true → b.one = true → c.one = true → d.one = true → (z = true → ∀ h',h.next ≤ h'.next → (∀ l,l < h.next → hget h'.mem l = hget h.mem l) → Q (.tup []) h') → (z = false → ∀ h',h.next ≤ h'.next → (∀ l,l < h.next → hget h'.mem l = hget h.mem l) → R (Zhb p 22) h') → VC E T 89 [.ptr ps 0,.v (.bool z),.agg [.int .i64 (.ofNat p),.int .i64 (.ofNat q),a,b,c,d],.int .i64 (.ofNat 22)] h Q R := fun o1 o2 o3 o4 a1 a2 => vc89 h89 ⟨o1,o2,o3,o4⟩ a1 a2
      clear hu hT ih hel
      rw [if_pos u0] at hq
      by_cases uz : u.1 = 0
      · rw [if_pos uz] at hq
        simp only [Ztd] at hq
        refine Zd h88 ?_
        unfold Zf
        repeat' (with_reducible (first | refine zc ?_ | refine hKD ?_ ?_ ?_ ?_ ?_ | refine hRK ?_ ?_ ?_ ?_ ?_ ?_ | refine hMU ?_ ?_ ?_ ?_ ?_ ?_ | simp (maxSteps := 2000000) (disch := first | exact zd | fail) only [go_sem, -Int.reduceOfNat, *,hXX,YI,Zfi,Zdx,Zgq,hk0,hw,uz] | (refine zb ?_ ?_ <;> intro _ <;> (try (exfalso; omega))) | (exfalso; omega) | (exfalso; exact absurd u0 (by assumption)) | (refine hq _ ?_ ?_) | (rintro h1 a b c d hrep n1 f1 m1; obtain ⟨oa,ob,oc,od⟩ := ZT hrep; obtain ⟨es2,s2,al2⟩ := hset a b c d hrep; have s3 := fun l h => Zig (l := l) (h := h) s2; obtain ⟨L,hcc,_,hsl⟩ := hrep.inv; have sd := Zcf hsl; simp only [List.cons.injEq,and_true] at hcc; obtain ⟨rfl,rfl,rfl,rfl⟩ := hcc; clear s2) | (intro uu) | (rintro h2 n2 f2) | exact ze | (intro _; intros) | (refine ⟨_,by assumption, ?_⟩) | refine And.intro ?_ ?_))
      · rw [if_neg uz] at hq
        simp only [Zwb] at hq
        refine Zd h88 ?_
        unfold Zf
        repeat' (with_reducible (first | refine zc ?_ | refine hKD ?_ ?_ ?_ ?_ ?_ | refine hRK ?_ ?_ ?_ ?_ ?_ ?_ | refine hMU ?_ ?_ ?_ ?_ ?_ ?_ | simp (maxSteps := 2000000) (disch := first | exact zd | fail) only [go_sem, -Int.reduceOfNat, *,hXX,YI,Zfi,Zdx,Zgq,hk0,hw,uz] | (refine zb ?_ ?_ <;> intro _ <;> (try (exfalso; omega))) | (exfalso; omega) | (exfalso; exact absurd u0 (by assumption)) | (show Q _ _; refine hq _ _ _ _ _ es2 hrep ?_ ?_ ?_ ?_ ?_ al2) | (rintro h1 a b c d hrep n1 f1 m1; obtain ⟨oa,ob,oc,od⟩ := ZT hrep; obtain ⟨es2,s2,al2⟩ := hset a b c d hrep; have s3 := fun l h => Zig (l := l) (h := h) s2; obtain ⟨L,hcc,_,hsl⟩ := hrep.inv; have sd := Zcf hsl; simp only [List.cons.injEq,and_true] at hcc; obtain ⟨rfl,rfl,rfl,rfl⟩ := hcc; clear s2) | (intro uu) | (rintro h2 n2 f2) | exact ze | (intro _; intros) | (refine ⟨_,by assumption, ?_⟩) | refine And.intro ?_ ?_))
end
end
end Run
end
end Go.Abs
