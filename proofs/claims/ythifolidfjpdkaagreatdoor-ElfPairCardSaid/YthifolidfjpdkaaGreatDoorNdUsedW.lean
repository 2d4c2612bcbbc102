/- canon.used of a file that is given as a tree: what it does in a world. -/
import Derived.Test.YthifolidfjpdkaaGreatDoorNdUsed
import Derived.Test.YthifolidfjpdkaaGreatDoorNdTree
import Derived.RangeFuncLeaves
import Derived.RangeFuncRecord
import Derived.Test.YthifolidfjpdkaaGreatDoorNdLibS
set_option linter.unusedVariables false
set_option linter.unusedSimpArgs false
namespace Go.Abs
noncomputable section
namespace Run
open Go.Proofs Go.RowKit
variable {E : Env} {T : Nat → ZV} {glob : Nat → Option (List D)} {P : Program}
theorem Zrn (ht : Told P glob E) (hT : Z6g E T) (n : Nat) : WE P (ZI E T n) glob := fun f ds h p d h' hrun =>
  Zks ht n f ds h p d h' ((Zee hT n f ds h (by rw [hrun]; cases p <;> trivial)).trans hrun)
theorem Zjz (ht : Told P glob E) (hT : Z6g E T) (n : Nat) : ZX (ZI E T n) := fun f ds h => by
  cases hr : ZI E T n f ds h with
  | ok d h' =>
    have := Zd0 ht.libgrow n f ds h
    rw [(Zee hT n f ds h (by rw [hr]; trivial)).trans hr] at this
    exact this
  | panic d h' =>
    have := Zd0 ht.libgrow n f ds h
    rw [(Zee hT n f ds h (by rw [hr]; trivial)).trans hr] at this
    exact this
  | fail w => trivial
theorem Z3c {cc : CC} {q : FC} (hq : Xh cc = q) {t : Tr D} {h : H} {Q : UU} (hv : VP E T q t h Q Zd8) : ∃ M e t' h',Q e t' h' ∧ Zc E (ZI E T M) M cc (act t) h = .out e (act t') h' := by
  subst hq
  obtain ⟨x,⟨M,hM⟩,hx⟩ := hv
  have h1 := hM M M (Nat.le_refl _) (Nat.le_refl _)
  have h2 := Zhy E (ZI E T M) cc M t h
  rw [h1] at h2
  cases x with
  | out e t' h' => exact ⟨M,e,t',h',hx,h2⟩
  | panic d h' => exact hx.elim
  | fail w => exact hx.elim
theorem Zkm (ht : Told P glob E) (hT : Z6g E T) {c : Code} {N : Nat} {q : FC} (hq : (ZJ P glob N none c).map Xh = some q) (hm : (ZJ P glob N none c).map Zhd = some true) {t : Tr D} {h : H} {Q : UU} (hv : VP E T q t h Q Zd8) :
    ∃ e t' h',Q e t' h' ∧ h.next ≤ h'.next ∧ Zya P glob N c (act t) h e (act t') h' := by
  cases hc : ZJ P glob N none c with
  | none => rw [hc] at hq; cases hq
  | some cc =>
    rw [hc] at hq hm
    obtain ⟨M,e,t',h',h1,h2⟩ := Z3c (Option.some.inj hq) hv
    have hg := Zae (E := E) (Zjz ht hT M) M cc (act t) h
    rw [h2] at hg
    exact ⟨e,t',h',h1,Grow.next hg,Zpj (Zrn ht hT M) (Zjz ht hT M) ht.prog ht.orders M c cc _ _ _ _ _ hc (Option.some.inj hm) rfl h2⟩
def sL : Code → Code
  | .seq a _ => a
  | c => c
def sR : Code → Code
  | .seq _ b => b
  | c => c
def bI : Code → Code
  | .block _ c => c
  | c => c
def rfA : Code → Code
  | .rangeFunc _ _ a _ => a
  | c => c
def rfB : Code → Code
  | .rangeFunc _ _ _ b => b
  | c => c
def U59 : Code := Tryz.f30.body.getD .skip
def uu0 : Code := sL U59
def uu1 : Code := sL (sR U59)
def uu2 : Code := sL (sR (sR U59))
def uu3 : Code := sL (sR (sR (sR U59)))
def uu4 : Code := sL (sL (sR (sR (sR (sR U59)))))
def uF : Code := bI (sR (sL (sR (sR (sR (sR U59))))))
def uA : Code := rfA uF
def uB : Code := rfB uF
def uu13 : Code := sL (sR (sR (sR (sR (sR U59)))))
def uu14 : Code := sL (sR (sR (sR (sR (sR (sR U59))))))
theorem body59 : Tryz.f30.body = some (.seq uu0 (.seq uu1 (.seq uu2 (.seq uu3 (.seq (.seq uu4 (.block 0 (.rangeFunc (.tmp 20) #[21,22] uA uB))) (.seq uu13 (.seq uu14 .ret))))))) := by kernel_rfl
theorem c0 : (ZJ Tryz.prog glob 47 none uu0).map Xh = some Z3r := by kernel_rfl
theorem c1 : (ZJ Tryz.prog glob 47 none uu1).map Xh = some Z3q := by kernel_rfl
theorem c2 : (ZJ Tryz.prog glob 47 none uu2).map Xh = some Z3p := by kernel_rfl
theorem c3 : (ZJ Tryz.prog glob 47 none uu3).map Xh = some Z3o := by kernel_rfl
theorem c4 : (ZJ Tryz.prog glob 47 none uu4).map Xh = some Z3n := by kernel_rfl
theorem codB : (ZJ Tryz.prog glob 47 none uB).map Xh = some Z7p := by kernel_rfl
theorem m0 : (ZJ Tryz.prog glob 47 none uu0).map Zhd = some true := by kernel_rfl
theorem m1 : (ZJ Tryz.prog glob 47 none uu1).map Zhd = some true := by kernel_rfl
theorem m2 : (ZJ Tryz.prog glob 47 none uu2).map Zhd = some true := by kernel_rfl
theorem m3 : (ZJ Tryz.prog glob 47 none uu3).map Zhd = some true := by kernel_rfl
theorem m4 : (ZJ Tryz.prog glob 47 none uu4).map Zhd = some true := by kernel_rfl
theorem mB : (ZJ Tryz.prog glob 47 none uB).map Zhd = some true := by kernel_rfl
end Run
end
end Go.Abs
namespace Go.Abs
noncomputable section
namespace Run
open Go.Proofs Go.RowKit Go.Sort
variable {P : Program}
theorem Zhm {A : Act} {t : Tmp} {v : Value} (h : t < A.tmps.size) : (A.put (some t) v).eval (.tmp t) = v := by
  simp [Act.eval,Act.put,Array.getD_eq_getD_getElem?,Array.getElem?_setIfInBounds,h]
theorem Zmi {A : Act} {t s : Tmp} {v : Value} (h : s ≠ t) : (A.put (some s) v).eval (.tmp t) = A.eval (.tmp t) := by
  simp [Act.eval,Act.put,Array.getD_eq_getD_getElem?,Array.getElem?_setIfInBounds,h]
theorem Zof {A : Act} {t : Option Tmp} {v : Value} : (A.put t v).tmps.size = A.tmps.size := by
  cases t <;> simp [Act.put]
def asg : Code := .region 5 #[{ dst := some 5,op := .assign (.tmp 21),type := 3,pos := "canon.go:79",after := #[],guard := none }] false
def tl13 : Code := .region 13 #[{ dst := some 44,op := .load 58 (.tmp 4),type := 58,pos := "canon.go:88",after := #[],guard := none }, { dst := some 45,op := .call { callee := .value (.func 60),args := #[.tmp 44],argTypes := #[58] },type := 0,pos := "canon.go:88",after := #[{ on := 0,ground := .data }],guard := none }] false
def tl14 : Code := .region 14 #[{ dst := some 46,op := .load 58 (.tmp 4),type := 58,pos := "canon.go:89",after := #[],guard := none }, { dst := some 2,op := .assign (.tmp 46),type := 58,pos := "canon.go:89",after := #[{ on := 0,ground := .data }, { on := 0,ground := .phase }],guard := none }] false
theorem uA_eq : uA = asg := by kernel_rfl
theorem Z6n : uu13 = tl13 := by kernel_rfl
theorem Z6m : uu14 = tl14 := by kernel_rfl
theorem asg_wp {l m : Nat} {A : Act} {W : World} {K : Act → World → Prop} (h : K (A.put (some 5) (A.eval (.tmp 21))) W) : asg.wpIn (Ztj (some l)) m P (Exit.then K (fun _ _ _ => False)) A W := by
  refine wpIn_region ?_
  show wpOpsIn _ _ _ _ _ [0] A W
  rw [wpOpsIn_cons]
  unfold wpOpIn
  simp only [List.getElem?_toArray,List.getElem?_cons_zero]
  rw [if_pos (show Region.wanted _ _ = true from rfl)]
  unfold Oper.wpIn
  exact ⟨fun _ _ => trivial,h⟩
theorem Z6q {A : Act} {W : World} {p : Addr} {v : Value} {Kp : World → Prop} {Q : Exit → Act → World → Prop} (hs : 47 ≤ A.tmps.size) (h4 : A.eval (.tmp 4) = .pointer (some p))
    (hp : W.cell? p = some v) (hcall : Calls Tryz.prog 60 #[v] W (fun e W' => e = .returned (.tuple #[]) ∧ W'.cell? p = some v ∧ Kp W'))
    (hQ : ∀ A' W',A'.defers = A.defers → A'.eval (.tmp 2) = v → Kp W' → Q .ret A' W') : (Code.seq tl13 (.seq tl14 .ret)).wp Tryz.prog Q A W := by
  have ld : ∀ (ρ : Operand → Value) (W : World) (o : Oper),o.op = .load 58 (.tmp 4) → ρ (.tmp 4) = .pointer (some p) → W.cell? p = some v → (execOp ρ o).run Tryz.prog W = .ok (.value v) W := fun ρ W o h0 h1 h2 => by
    have hu : Tryz.prog.cellsOf 58 = 1 := by kernel_rfl
    simp [execOp,h0,go_sem,h1,h2,hu]
  have e44 : ∀ (ρ : Operand → Value) (W : World) (o : Oper),o.op = .call { callee := .value (.func 60),args := #[.tmp 44],argTypes := #[58] } → ρ (.func 60) = .func (.func 60) #[] #[] → ρ (.tmp 44) = v → (execOp ρ o).run Tryz.prog W = .ok (.enter 60 #[v]) W := fun ρ W o h0 h1 h2 => by
    simp [execOp,h0,go_sem,h1,h2]
  refine Go.wp_seq (wp_region ?_)
  show wpOps _ _ _ [0,1] A W
  rw [wpOps_cons]
  unfold wpOp
  simp only [List.getElem?_toArray,List.getElem?_cons_zero]
  rw [if_pos (show Region.wanted _ _ = true from rfl)]
  refine .inl ?_
  unfold Oper.wp
  rw [ld A.eval W _ rfl h4 hp]
  rw [Oper.upon_value,wpOps_cons]
  unfold wpOp
  simp only [List.getElem?_toArray,List.getElem?_cons_succ,List.getElem?_cons_zero]
  rw [if_pos (show Region.wanted _ _ = true from rfl)]
  refine .inl ?_
  unfold Oper.wp
  rw [e44 (A.put (some 44) v).eval W _ rfl rfl (Zhm (Nat.lt_of_lt_of_le (by decide) hs))]
  refine Calls.mono hcall ?_
  rintro e W' ⟨rfl,hp',hk⟩
  show Code.wp _ _ _ _ _
  refine Go.wp_seq (wp_region ?_)
  obtain ⟨B,hB⟩ : ∃ B,B = (A.put (some 44) v).put (some 45) (.tuple #[]) := ⟨_,rfl⟩
  have hBs : 47 ≤ B.tmps.size := by rw [hB,Zof,Zof]; exact hs
  have hB4 : B.eval (.tmp 4) = .pointer (some p) := by rw [hB,Zmi (by decide),Zmi (by decide)]; exact h4
  have hBd : B.defers = A.defers := by rw [hB]; rfl
  show wpOps _ _ _ [0,1] ((A.put (some 44) v).put (some 45) (.tuple #[])) W'
  rw [← hB]
  rw [wpOps_cons]
  unfold wpOp
  simp only [List.getElem?_toArray,List.getElem?_cons_zero]
  rw [if_pos (show Region.wanted _ _ = true from rfl)]
  refine .inl ?_
  unfold Oper.wp
  rw [ld B.eval W' _ rfl hB4 hp']
  rw [Oper.upon_value,wpOps_cons]
  unfold wpOp
  simp only [List.getElem?_toArray,List.getElem?_cons_succ,List.getElem?_cons_zero]
  rw [if_pos (show Region.wanted _ _ = true from rfl)]
  refine .inl ?_
  show Code.wp _ _ _ ((B.put (some 46) v).put (some 2) ((B.put (some 46) v).eval (.tmp 46))) W'
  refine Go.wp_ret ?_
  refine hQ _ _ hBd ?_ hk
  rw [Zhm (by rw [Zof]; exact Nat.lt_of_lt_of_le (by decide) hBs),Zhm (Nat.lt_of_lt_of_le (by decide) hBs)]
end Run
end
end Go.Abs
namespace Go.Abs
noncomputable section
namespace Run
open Go.Proofs Go.RowKit Go.Sort Go.Lib
variable {E : Env} {T : Nat → ZV} {glob : Nat → Option (List D)}
theorem Zzv (i : Nat) (t : Tr D) : (act t).eval (.t i) = Gt i t := by
  rw [Gt,Zra _ _ _ (Nat.lt_succ_self i)]
  show _ = Z4y (t.get i)
  rw [show (act t).eval (.t i) = (match t.get i with | some d => d | none => ZD) from rfl]
  cases t.get i <;> rfl
theorem Zsg (j : Nat) (d : D) (t : Tr D) : (act t).put (some j) d = act (St j d t) := by
  rw [St,Zoi]; rfl
theorem Zh0 {h : H} {ty : TypeId} {cs : List D} (hm : ∀ j es,hget h.mem j ≠ some (.map es)) : ∀ j es,hget (Vr h (.cells ty cs)).mem j ≠ some (.map es) := by
  intro j es
  by_cases e : j = h.next
  · rw [YE e]; intro h; cases h
  · rw [Zi e]; exact hm j es
def nm0 : Nms := ⟨1,2,3,4,5,6⟩
theorem nm0_ok : nm0.Ok := ⟨⟨by decide,by decide,by decide,by decide,by decide,by decide,by decide,by decide,by decide,by decide⟩,by decide,by decide,by decide,by decide,by decide⟩
theorem stU0 (F : D) (n : Nat) : StU nm0 F n (Zwf n) [] (hU F n) := by
  refine ⟨by simp [Zwf],Nat.zero_le _, ?_, ?_, ?_, ?_,⟨.v (.slice none 0 0), ?_,.inl ⟨rfl,rfl⟩⟩,Nat.le_refl _, ?_⟩
  · kernel_rfl
  · kernel_rfl
  · kernel_rfl
  · kernel_rfl
  · kernel_rfl
  · unfold hU
    refine Zh0 (Zh0 (Zhv (Zhv (Zh0 (Zh0 (Zh0 ?_))))))
    intro j es h
    rw [ZO] at h
    cases h
def StA (F : D) (n : Nat) (nm : Nat → List Nat) (pre : List Nat) (hh : H) : Prop :=
  StU nm0 F n (pre.foldl (Zce nm) (Zwf n,[])).1 (pre.foldl (Zce nm) (Zwf n,[])).2 hh ∧ hh.next ≤ 6 + 2 * pre.length ∧ (pre.foldl (Zce nm) (Zwf n,[])).2.length ≤ pre.length
theorem Zz3 (nm : Nat → List Nat) (s : List Bool × List Nat) (i : Nat) : (Zce nm s i).2.length ≤ s.2.length + 1 := by
  unfold Zce
  cases s.1.getD i false <;> simp
theorem Zqq {enc : Int → Value} {w : World} {b : Nat} {d : Array Int} {m k : Nat} (h : k ≠ b) : (putRow enc (Sort.ahead w m) b 0 d).heap[k]? = w.heap[k]? := by
  simp [putRow,mapBlock,Array.getElem?_modify,Ne.symm h,Sort.ahead]
set_option maxHeartbeats 4000000 in
theorem Zwj (ht : Told Tryz.prog glob E) (hT : Z6g E T) (h105 : T 58 = k105) (h143 : ∀ args w,(callFunc 91 args).run Tryz.prog w = .ok (.enter 91 args) w)
    (F c0' : D) (ss rest : List D) (n : Nat) (hF : F = .ep (c0' :: .sl 0 n ss :: rest)) (hn0 : 0 < n) (hn : n ≤ 100000) (nm : Nat → List Nat) (hnm : ∀ i,i < n → ∀ k ∈ nm i,k < n) (hnl : ∀ i,i < n → (nm i).length ≤ 1000000)
    (hcall : ∀ i,i < n → ∀ h,VC E T 59 [F,Zfr i] h (fun d h' => h' = h ∧ ((nm i = [] ∧ d = .v (.slice none 0 0)) ∨ ∃ id,d = .sl id (nm i).length ((nm i).map Zfr))) Zd8)
    (res : List Nat) (hres : ((Zjx n).foldl (Zce nm) (Zwf n,[])).2 = res.reverse) (hne : res ≠ [])
    {T0 : Nat → Nat → Option D} {w : World} (ok : OkT w T0) (hgl : XB (gT T0) glob) {args : Array Value} (hargs : Zk (gT T0) [F] args.toList) :
    Calls Tryz.prog 30 args w fun e w' => ∃ v T',e = .returned v ∧ OkT w' T' ∧ (∀ b o,b < w.heap.size → T' b o = T0 b o) ∧ Below w.heap.size w w' ∧ VRel (gT T') (.sl 0 res.length (res.map Zfr)) v := by
  have hR0 := ok.r (P := Tryz.prog) (top := 6 + 2 * n) (by omega)
  have hA0 : ARel (gT T0) (act (Tr.ofList [F])) { tmps := args ++ Array.replicate (47 - args.size) undef,defers := [] } 47 := Zk1 hargs 47
  have hpre := pre_ok (T := T) (E := E) h105 F c0' ss rest n hF hn0 hn (Tr.ofList [F]) rfl
  obtain ⟨e0,t0,h0,⟨rfl,p1⟩,x0,G0⟩ := Zkm ht hT c0 m0 hpre
  obtain ⟨e1,t1,h1,⟨rfl,p2⟩,x1,G1⟩ := Zkm ht hT c1 m1 p1
  obtain ⟨e2,t2,h2,⟨rfl,p3⟩,x2,G2⟩ := Zkm ht hT c2 m2 p2
  obtain ⟨e3,t3,h3,⟨rfl,p4⟩,x3,G3⟩ := Zkm ht hT c3 m3 p3
  obtain ⟨e4,t4,h4,⟨rfl,rfl,hTU⟩,x4,G4⟩ := Zkm ht hT c4 m4 p4
  have hx : (hU F n).next = 6 := rfl
  have body' := body59
  rw [uA_eq,Z6n,Z6m] at body'
  refine (callsIn_wide (n := 3)).1 (callsIn_of_wp_marks Tryz.func30 body' trivial ?_ rfl)
  refine wpIn_seq (G0 none 3 [] (6 + 2 * n) _ w _ _ (by omega) hR0 hA0 hgl fun w1 g1 A1 E1 R1 AR1 _ => ?_)
  refine wpIn_seq (G1 none 3 [] (6 + 2 * n) _ w1 _ _ (by omega) R1 AR1 (hgl.mono E1.le) fun w2 g2 A2 E2 R2 AR2 _ => ?_)
  have E2 := Ext.trans hR0 R1 E1 E2
  refine wpIn_seq (G2 none 3 [] (6 + 2 * n) _ w2 _ _ (by omega) R2 AR2 (hgl.mono E2.le) fun w3 g3 A3 E3 R3 AR3 _ => ?_)
  have E3 := Ext.trans hR0 R2 E2 E3
  refine wpIn_seq (G3 none 3 [] (6 + 2 * n) _ w3 _ _ (by omega) R3 AR3 (hgl.mono E3.le) fun w4 g4 A4 E4 R4 AR4 _ => ?_)
  have E4 := Ext.trans hR0 R3 E3 E4
  refine wpIn_seq (wpIn_seq (G4 none 3 [] (6 + 2 * n) _ w4 _ _ (by omega) R4 AR4 (hgl.mono E4.le) fun w5 g5 A5 E5 R5 AR5 _ => ?_))
  have E5 := Ext.trans hR0 R4 E4 E5
  have hA5 : Zcr A5 [] = A5 := by
    have := AR5.dfr.nil
    show ({ A5 with defers := [] } : Act) = A5
    rw [← this]
  rw [hA5]
  clear G0 G1 G2 G3 G4 p1 p2 p3 p4 hpre
  obtain ⟨cb,hcb,hcq⟩ : ∃ cb,ZJ Tryz.prog glob 47 none uB = some cb ∧ Xh cb = Z7p ∧ Zhd cb = true := by
    have h1 := codB (glob := glob)
    have h2 := mB (glob := glob)
    cases hc : ZJ Tryz.prog glob 47 none uB with
    | none => rw [hc] at h1; cases h1
    | some cb => rw [hc] at h1 h2; exact ⟨cb,rfl,Option.some.inj h1,Option.some.inj h2⟩
  obtain ⟨hcq,hcm⟩ := hcq
  refine wpIn_block (wpIn_wide.2 (Z50 (N := 47) (E := E) (glob := glob) (top := 6 + 2 * n) (gf := 91) (k := 5) (px := 21) (py := 22) (cb := cb) (a := act t4) (h := hU F n) (b0 := 5) (l0 := 2) (off := 0) (len := n) (cap := n) ht.prog ht.orders Bk.back_seq h143 (by decide) (by decide) (by decide) (fun l m A W K hK => asg_wp hK) (by decide) hcb hcm rfl (by omega) (StA F n nm) ?round ?hd ?maps ⟨stU0 F n,by rw [hx]; simp,by simp⟩ ?top R5 AR5 (hgl.mono E5.le) ?f ?done))
  case round =>
    intro pre i v hh hi hpl ⟨hS,hnx,hol⟩
    rw [Zsg,Zsg,Zsg]
    obtain ⟨M,e,t',h',⟨rfl,hS',hnx'⟩,hrun⟩ := Z3c hcq (Z3f nm0 nm0_ok F n nm hnm hnl hcall _ _ hh hS i hi (by omega) (St 5 (.int .i64 (.ofNat i)) (St 22 (.v (.bool v)) (St 21 (.int .i64 (.ofNat i)) t4)))
      (by simp only [Zah]; simp [hTU.g1,nm0]) (by simp only [Zah]; simp [hTU.g3,nm0]) (by simp only [Zah]; simp [hTU.g4,nm0]) (by simp only [Zah]; simp [Zfr]))
    refine ⟨ZI E T M,M,act t',h',Zrn ht hT M,Zjz ht hT M,hrun, ?_⟩
    have hl := Zz3 nm (pre.foldl (Zce nm) (Zwf n,[])) i
    unfold StA
    rw [List.foldl_append]
    exact ⟨hS',by simp; omega,by simp only [List.foldl_cons,List.foldl_nil,List.length_append,List.length_cons,List.length_nil]; omega⟩
  case hd =>
    intro pre hh ⟨hS,_,_⟩
    refine ⟨⟨146,by rw [← ZO]; exact hS.b⟩,4,_,by rw [← ZO]; exact hS.l,fun j hj => ?_⟩
    have hj' : j < (pre.foldl (Zce nm) (Zwf n,[])).1.length := by rw [hS.len]; exact hj
    refine ⟨(pre.foldl (Zce nm) (Zwf n,[])).1[j], ?_⟩
    rw [Nat.zero_add,List.getElem?_map,List.getElem?_eq_getElem hj']
    rfl
  case maps =>
    intro pre hh ⟨hS,_,_⟩ j es hj
    rw [← ZO] at hj
    exact absurd hj (hS.maps j es)
  case top =>
    intro pre hh hpl ⟨_,hnx,_⟩
    omega
  case f =>
    have := AR5.tmp 20
    rw [Zzv,hTU.g20] at this
    exact this
  case done =>
    intro Dk g' hh W ⟨hS,_,hol⟩ hE hR hD hDk
    have hEw := Ext.trans hR0 R5 E5 hE
    show Code.wpIn _ _ _ _ _ _ W
    obtain ⟨d,hod,hO⟩ := hS.o
    rw [hres] at hO
    obtain ⟨k,rfl,hk,hk6,hkn,hk0⟩ : ∃ k,d = .sl k res.reverse.length (res.reverse.map Zfr) ∧ hget hh.mem k = some (.tip res.reverse.length 3) ∧ 6 ≤ k ∧ k < hh.next ∧ 0 < res.reverse.length := by
      rcases hO with ⟨h,_⟩ | h
      · exact absurd (List.reverse_eq_nil_iff.1 h) hne
      · exact h
    -- where the slice lies
    obtain ⟨vd,hvd,hvr⟩ : ∃ vd,(∃ b4,g'.own b4 = some 4 ∧ A5.eval (.tmp 4) = .pointer (some ⟨b4,0,none⟩) ∧ W.cell? ⟨b4,0,none⟩ = some vd) ∧ VRel g' (.sl k res.reverse.length (res.reverse.map Zfr)) vd := by
      have h4 := AR5.tmp 4
      rw [Zzv,hTU.g4] at h4
      obtain ⟨b4,hb4,he4⟩ : ∃ b4,g5.blk 4 = some b4 ∧ A5.eval (.tmp 4) = .pointer (some ⟨b4,0,none⟩) := by
        have : A5.eval (.tmp 4) = A5.tmps.getD 4 undef := rfl
        rw [this]
        generalize A5.tmps.getD 4 undef = x at h4
        cases h4 with
        | ptr h => exact ⟨_,h,rfl⟩
      have hb4' := hE.le.blk _ _ hb4
      obtain ⟨b',ob,q1,q2,q3⟩ := hR.obj 4 _ (by rw [← ZO]; exact hod) (fun n e he => by cases he)
      rw [hb4'] at q1
      cases q1
      cases q3 with
      | cells hvs =>
        rename_i c
        obtain ⟨v,e,r⟩ := hvs.some (i := 0) (d := .sl k res.reverse.length (res.reverse.map Zfr)) rfl
        refine ⟨v,⟨b4,(hR.blkown _ _ hb4').1,he4, ?_⟩,r⟩
        simp only [World.cell?,q2]
        simpa using e
    obtain ⟨b4,ho4,he4,hc4⟩ := hvd
    obtain ⟨b,cap,rfl,hcap,himm,hsl⟩ : ∃ b cap,vd = .slice (some ⟨b,0,none⟩) res.reverse.length cap ∧ res.reverse.length ≤ cap ∧ (∀ (i : Nat) (d : D),(res.reverse.map Zfr)[i]? = some d → g'.imm b i = some d) ∧ g'.sl k res.reverse.length = some (b,cap) := by
      cases hvr with
      | sl hn hc h0 =>
        rename_i a cap
        obtain ⟨q1,q2,q3⟩ := h0 (by omega)
        obtain ⟨ab,ao,sp⟩ := a
        cases q1; cases q2
        exact ⟨ab,cap,rfl,hn,fun i d hi => by have := (hc i d hi).2; simpa using this,q3⟩
    obtain ⟨b',cap',xs,q1,q2,q3,q4⟩ := hR.tip k _ 3 (by rw [← ZO]; exact hk)
    rw [hsl] at q1
    cases q1
    obtain ⟨cur,hcur⟩ : ∃ cur,W.heap[b]? = some (.cells cur 3 (0,0)) := by
      rcases q2.2 with ⟨q,_⟩ | ⟨g0,cap0,cur,q,_,q6,_⟩
      · cases q
      · cases q; exact ⟨cur,q6⟩
    have hown := hR.slown _ _ _ _ hsl
    have hbs : w.heap.size ≤ b := Nat.le_of_not_lt fun hlt => by
      have := hEw.ownold b hlt
      rw [hown] at this
      cases this
    have hb4s : w.heap.size ≤ b4 := Nat.le_of_not_lt fun hlt => by
      have := hEw.ownold b4 hlt
      rw [ho4] at this
      cases this
    have hb4b : b4 ≠ b := fun e => by
      rw [e,hown] at ho4
      have := Option.some.inj ho4
      omega
    have hDb : Dk ≠ b := fun e => by rw [e,hcur] at hDk; cases hDk
    have hDs : w.heap.size ≤ Dk := Nat.le_trans E5.size hD
    -- the row of ints
    have hH : Sort.Holds RevW.encI W b 0 (res.reverse.map (fun x : Nat => (x : Int))).toArray := by
      intro j hj
      have hj' : j < res.reverse.length := by simpa using hj
      have h1 : (res.reverse.map Zfr)[j]? = some (Zfr res.reverse[j]) := by rw [List.getElem?_map,List.getElem?_eq_getElem hj']; rfl
      obtain ⟨v,hv,hvr⟩ := hR.imm b j _ (himm j _ h1)
      have e1 : ((res.reverse.map (fun x : Nat => (x : Int))).toArray)[j]! = (res.reverse[j] : Int) := by
        have hj2 : j < (res.reverse.map (fun x : Nat => (x : Int))).length := by simpa using hj'
        rw [List.getElem!_toArray,List.getElem!_eq_getElem?_getD,List.getElem?_eq_getElem hj2,List.getElem_map]
        rfl
      refine ⟨?_, ?_⟩
      · rw [Nat.zero_add,hv,e1]
        cases hvr
        rfl
      · simp [World.frozen?,hcur]
    have hsz : (res.reverse.map (fun x : Nat => (x : Int))).toArray.size = res.reverse.length := by simp
    have hrev := RevW.rev_ints b 0 cap _ W hH (by rw [hsz]; simp at hol ⊢; have := hS.outl; rw [hres] at this; simp at this; omega)
    rw [hsz] at hrev
    refine wpIn_wide.2 (Z6q (A := { A5 with defers := [{ target := .collected Dk,args := #[] }] }) (W := W) (p := ⟨b4,0,none⟩) (v := .slice (some ⟨b,0,none⟩) res.reverse.length cap) (Kp := fun W' => ∃ m,W' = putRow RevW.encI (Sort.ahead W m) b 0 (res.reverse.map (fun x : Nat => (x : Int))).toArray.reverse) AR5.size he4 hc4 (hrev.mono ?_) ?_)
    · rintro e W' ⟨rfl,m,rfl⟩
      refine ⟨rfl, ?_,m,rfl⟩
      rw [World.cell?_of_block (Zqq hb4b)]
      exact hc4
    · rintro A' W' hA' hv2 ⟨m,rfl⟩
      show LeavesInM _ _ _ _ _ _ A'.defers _ _
      rw [hA']
      have hDk' : (putRow RevW.encI (Sort.ahead W m) b 0 (res.reverse.map (fun x : Nat => (x : Int))).toArray.reverse).heap[Dk]? = some (.deferred (some [])) := (Zqq hDb).trans hDk
      refine ⟨by simp,.inl ⟨_,_,rfl,run_takeDeferred hDk', ?_⟩⟩
      refine ⟨.slice (some ⟨b,0,none⟩) res.reverse.length cap, ?_, ?_⟩
      · have e2 : A'.tmps[2]?.getD undef = .slice (some ⟨b,0,none⟩) res.reverse.length cap := by rw [← hv2]; simp [Act.eval,Array.getD_eq_getD_getElem?]
        simp [results,Tryz.f30,go_sem,e2]
      · have hB1 : Below w.heap.size w W := ⟨hEw.os,hEw.tape,hEw.output,hEw.size,fun q hq => hEw.fr q hq (fun l hl => by cases hl)⟩
        have hB2 := Lib.below_putRow (enc := RevW.encI) (q := m) (d := (res.reverse.map (fun x : Nat => (x : Int))).toArray.reverse) hB1 hbs
        have hB3 : Below w.heap.size w ((putRow RevW.encI (Sort.ahead W m) b 0 (res.reverse.map (fun x : Nat => (x : Int))).toArray.reverse).putObj Dk (.deferred none)) :=
          ⟨hB2.os,hB2.tape,hB2.output,by simpa [World.putObj] using hB2.size,fun q hq => by rw [World.putObj_heap_other (by omega)]; exact hB2.block q hq⟩
        have hHr := holds_putRow RevW.encI (Sort.ahead W m) b 0 _ (res.reverse.map (fun x : Nat => (x : Int))).toArray.reverse (holds_ahead RevW.encI W m b 0 _ hH) (by simp)
        have hle0 : ∀ b' o d,T0 b' o = some d → (if b' < w.heap.size then T0 b' o else if b' = b then (res.map Zfr)[o]? else none) = some d := by
          intro b' o d h
          obtain ⟨v,hv,_⟩ := ok.cell b' o d h
          rw [if_pos (World.block_lt_of_cell? w _ hv)]
          exact h
        have hle : (gT T0).Le (gT fun b' o => if b' < w.heap.size then T0 b' o else if b' = b then (res.map Zfr)[o]? else none) := ⟨fun _ _ h => (by cases h),fun _ _ _ h => (by cases h),hle0⟩
        refine ⟨_,fun b' o => if b' < w.heap.size then T0 b' o else if b' = b then (res.map Zfr)[o]? else none,rfl,⟨?_, ?_⟩,fun b' o hb' => if_pos hb',hB3, ?_⟩
        · intro b' o d hd
          by_cases hlt : b' < w.heap.size
          · rw [if_pos hlt] at hd
            obtain ⟨v,hv,hr⟩ := ok.cell b' o d hd
            exact ⟨v,(hB3.cell (World.block_lt_of_cell? w _ hv)).trans hv,hr.mono hle⟩
          · rw [if_neg hlt] at hd
            by_cases hbb : b' = b
            · rw [if_pos hbb] at hd
              subst hbb
              obtain ⟨ho,hd'⟩ := List.getElem?_eq_some_iff.1 hd
              have ho' : o < res.length := by simpa using ho
              have h1 := (hHr o (by simpa using ho')).1
              rw [Nat.zero_add] at h1
              refine ⟨_,(World.cell?_of_block (World.putObj_heap_other (Ne.symm hDb))).trans h1, ?_⟩
              rw [← hd']
              have e1 : ((res.reverse.map (fun x : Nat => (x : Int))).toArray.reverse)[o]! = (res[o] : Int) := by
                simp [ho']
              rw [e1,List.getElem_map]
              exact .int _ _
            · rw [if_neg hbb] at hd
              cases hd
        · intro b' o d hd
          by_cases hlt : b' < w.heap.size
          · rw [if_pos hlt] at hd
            exact ok.tree b' o d hd
          · rw [if_neg hlt] at hd
            by_cases hbb : b' = b
            · rw [if_pos hbb] at hd
              obtain ⟨ho,hd'⟩ := List.getElem?_eq_some_iff.1 hd
              rw [← hd',List.getElem_map]
              exact ⟨1,fun _ _ => rfl⟩
            · rw [if_neg hbb] at hd
              cases hd
        · rw [List.length_reverse] at hcap ⊢
          refine .sl hcap (fun i d hi => ⟨rfl, ?_⟩) (fun e => absurd rfl e)
          show (if b < w.heap.size then _ else _) = _
          rw [if_neg (by omega),if_pos rfl,Nat.zero_add]
          exact hi
end Run
end
end Go.Abs
namespace Go.Abs
noncomputable section
namespace Run
open Go.Proofs Go.RowKit
def libOr (a b : List D → H → O D) : List D → H → O D := fun ds h =>
  match a ds h with
  | .fail _ => b ds h
  | o => o
def runs : List (List D × D) → List D → H → O D
  | [] => fun _ _ => .fail "another call"
  | x :: r => libOr (Zy x.1 x.2) (runs r)
def nmD (l : List Nat) : D := match l with
  | [] => .v (.slice none 0 0)
  | _ => .sl 0 l.length (l.map Zfr)
theorem Z17 {E : Env} {T : Nat → ZV} (ht : Told Tryz.prog glob E) (hT : Z6g E T) (h105 : T 58 = k105) {lf : List D → H → O D} (h106 : T 59 = YK lf)
    (F c0' : D) (ss rest : List D) (n : Nat) (hF : F = .ep (c0' :: .sl 0 n ss :: rest)) (hn0 : 0 < n) (hn : n ≤ 100000) (nm : Nat → List Nat) (hnm : ∀ i,i < n → ∀ k ∈ nm i,k < n) (hnl : ∀ i,i < n → (nm i).length ≤ 1000000)
    (hok : ∀ i,i < n → ∀ h,lf [F,Zfr i] h = .ok (nmD (nm i)) h) (res : List Nat) (hres : ((Zjx n).foldl (Zce nm) (Zwf n,[])).2 = res.reverse) (hne : res ≠ []) {k : Nat} (hds : Zcc Tryz.prog k [F] = true) :
    Zp Tryz.prog 30 (Zy [F] (.sl 0 res.length (res.map Zfr))) glob := by
  refine Ze0 Zfs (enters_of Tryz.func30 (by kernel_rfl) rfl) fun ds h p d1 h1 h2 => ?_
  unfold Zy at h2
  cases hs : ZR ds [F] with
  | false => rw [hs] at h2; cases p <;> cases h2
  | true =>
    rw [hs] at h2
    have e := Zay hs
    subst e
    cases p with
    | true => cases h2
    | false =>
      cases h2
      refine ⟨rfl,rfl,Zaf hds,fun w T0 args ok hgl hargs => Zwj ht hT h105 (enters_of Tryz.func91 (by kernel_rfl) rfl) F c0' ss rest n hF hn0 hn nm hnm hnl (fun i hi h => Zbr h106 ?_) res hres hne ok hgl hargs⟩
      rw [hok i hi h]
      show h = h ∧ _
      refine ⟨rfl, ?_⟩
      unfold nmD
      cases nm i with
      | nil => exact .inl ⟨rfl,rfl⟩
      | cons a r => exact .inr ⟨0,rfl⟩
end Run
end
end Go.Abs
