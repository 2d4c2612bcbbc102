/- Calls, in a world and on plain data. -/
import Derived.Test.YthifolidfjpdkaaGreatDoorNdDrawB
import Derived.Recover
import Derived.ControlIn
import Derived.OrdersIn
import Derived.LoopNIn
import Derived.RangeFuncCalls
import Derived.TacticsIn
import Derived.RangeFuncNested
import Derived.Below
set_option linter.unusedVariables false
set_option linter.unusedSimpArgs false
namespace Go.Abs
noncomputable section
section
variable {P : Program} {top : Nat} {glob : Nat → Option (List D)} {E : Env}
theorem Tr.get_ofListFrom {α : Type} : ∀ (l : List α) (i : Nat) (t : Tr α) (j : Nat),(Tr.ofListFrom i l t).get j = if i ≤ j ∧ j < i + l.length then l[j - i]? else t.get j
  | [],i,t,j => by simp [Tr.ofListFrom]; intro h1 h2; omega
  | x :: xs,i,t,j => by
    simp only [Tr.ofListFrom]
    rw [Tr.get_ofListFrom xs (i + 1),Tr.get_set]
    by_cases h1 : i + 1 ≤ j ∧ j < i + 1 + xs.length
    · rw [if_pos h1,if_pos (by simp; omega)]
      have : j - i = (j - (i + 1)) + 1 := by omega
      rw [this]; simp
    · rw [if_neg h1]
      by_cases h2 : j = i
      · subst h2; rw [if_pos rfl,if_pos (by simp)]; simp
      · rw [if_neg h2,if_neg (by simp; omega)]
theorem Tr.get_ofList {α : Type} (l : List α) (j : Nat) : (Tr.ofList l).get j = l[j]? := by
  unfold Tr.ofList
  rw [Tr.get_ofListFrom]
  by_cases h : j < l.length
  · rw [if_pos (by omega)]; simp
  · rw [if_neg (by omega),List.getElem?_eq_none (by omega)]; rfl
theorem Zk1 {g : G} {ds : List D} {args : Array Value} (h : Zk g ds args.toList) (N : Nat) : ARel g (start ds none) { tmps := args ++ Array.replicate (N - args.size) undef,defers := [] } N := by
  refine ⟨fun t => ?_,by simp; omega,trivial⟩
  simp only [AAct.eval,start,Tr.get_ofList]
  by_cases ht : t < args.size
  · have hl : t < ds.length := by rw [h.1]; simpa using ht
    rw [List.getElem?_eq_getElem hl]
    have h2 := h.2 t ds[t] args[t] (List.getElem?_eq_getElem hl) (by simp [ht])
    simpa [Array.getElem?_append,ht] using h2
  · have hl : ¬ t < ds.length := by rw [h.1]; simpa using ht
    rw [List.getElem?_eq_none (by omega)]
    have : (args ++ Array.replicate (N - args.size) undef).getD t undef = undef := by
      simp only [Array.getD_eq_getD_getElem?,Array.getElem?_append,ht,if_false,Array.getElem?_replicate]
      split <;> rfl
    rw [this]; exact .undef g
def Zn0 (tmps : Array Value) : ResultVar → Sem Value
  | .tmp t => pure (tmps.getD t undef)
  | .cell x t => do loadVar t (← asAddr (tmps.getD x undef))
theorem Zwu (fn : Func) (tmps : Array Value) : results fn tmps = (fn.results.mapM (Zn0 tmps) >>= fun vs => pure (if h : vs.size = 1 then vs[0] else Value.tuple vs)) := by
  unfold results
  congr 1
theorem Zvy {g : G} {h : H} {w : World} {a : AAct} {A : Act} {N : Nat} (hr : R P top g h w) (hA : ARel g a A N) : ∀ {rs : List ResultVar} {cs : List CRes} {ds : List D},Zxv P rs = some cs → Xl a h cs = some ds →
    ∃ vs,(rs.mapM (Zn0 A.tmps)).run P w = .ok vs w ∧ Zk g ds vs
  | [],cs,ds,hc,hd => by
    simp [Zxv] at hc; subst hc
    simp [Xl] at hd; subst hd
    exact ⟨[],by simp,.nil g⟩
  | r :: rs,cs,ds,hc,hd => by
    simp only [Zxv] at hc
    split at hc
    · rename_i c l h1 h2
      cases hc
      simp only [Xl] at hd
      split at hd
      · rename_i d ds' h3 h4
        cases hd
        obtain ⟨vs,hv1,hv2⟩ := Zvy hr hA h2 h4
        cases r with
        | tmp t =>
          simp only at h1
          cases h1
          simp only at h3
          cases h3
          refine ⟨A.tmps.getD t undef :: vs, ?_,.cons (hA.tmp t) hv2⟩
          simp only [List.mapM_cons,Zn0,Sem.run_bind,Sem.run_pure,Result.andThen_ok,hv1]
        | cell x t =>
          simp only at h1
          have hx := hA.tmp x
          split at h1
          · rename_i n ha hn
            cases h1
            simp only at h3
            split at h3
            · rename_i cs' hc'
              cases h3
              obtain ⟨b,off,us,hv,hvs,hlen,hcell⟩ := WF hr hc' hx
              obtain ⟨i,hi,his,hic,hsz⟩ := YD hn
              have hag := Zcl ha
              have hl : (loadCells ⟨b,off,none⟩ us.length).run P w = .ok us.toArray w := run_loadCells_list (P := P) w ⟨b,off,none⟩ us (fun j v hj => by rw [Xb]; exact hcell j v hj)
              rw [hlen] at hl
              refine ⟨.agg us.toArray :: vs, ?_,.cons (.agg' (by simpa using hvs)) hv2⟩
              have hld : (loadVar t ⟨b,off,none⟩).run P w = .ok (.agg us.toArray) w := by simp [loadVar,hag,hsz,hl]
              simp only [List.mapM_cons,Zn0,Sem.run_bind,Sem.run_pure,Result.andThen_ok,hv,asAddr,hld,hv1]
            · cases h3
          · rename_i n ha hn
            cases h1
            simp only at h3
            split at h3
            · rename_i c' hc'
              cases h3
              obtain ⟨b,off,us,hv,hvs,hlen,hcell⟩ := WF hr hc' hx
              have hag := Zcl ha
              obtain ⟨u,hu0,hur⟩ := hvs.some (i := 0) rfl
              have h0 : w.cell? ⟨b,off,none⟩ = some u := hcell 0 u hu0
              refine ⟨u :: vs, ?_,.cons hur hv2⟩
              have hld : (loadVar t ⟨b,off,none⟩).run P w = .ok u w := by simp [loadVar,hag,load,Sem.run,h0]
              simp only [List.mapM_cons,Zn0,Sem.run_bind,Sem.run_pure,Result.andThen_ok,hv,asAddr,hld,hv1]
            · cases h3
          · cases h1
      · cases hd
    · cases hc
theorem Zmf {g : G} {h : H} {w : World} {a : AAct} {A : Act} {N : Nat} {fn : Func} {cf : CFn} {d : D} {h' : H} (hr : R P top g h w) (hA : ARel g a A N) (hc : Zxv P fn.results.toList = some cf.results) (hf : Zbj cf a h = .ok d h') :
    h' = h ∧ ∃ v,(results fn A.tmps).run P w = .ok v w ∧ VRel g d v := by
  unfold Zbj at hf
  split at hf
  · rename_i ds hd
    cases hf
    obtain ⟨vs,h1,h2⟩ := Zvy hr hA hc hd
    refine ⟨rfl, ?_⟩
    have hvl : ds.length = vs.length := h2.1
    have hrun : (results fn A.tmps).run P w = .ok (if hh : vs.toArray.size = 1 then vs.toArray[0] else Value.tuple vs.toArray) w := by
      rw [Zwu,Sem.run_bind,Array.mapM_eq_mapM_toList]
      simp [h1]
    refine ⟨_,hrun, ?_⟩
    match ds,vs,h2,hvl with
    | [],[],h2,_ => exact .tup' h2
    | [d0],[v0],h2,_ => exact h2.head
    | d0 :: d1 :: ds,v0 :: v1 :: vs,h2,_ =>
      have : (v0 :: v1 :: vs).toArray.size ≠ 1 := by simp
      rw [dif_neg this]
      exact .tup' h2
  · cases hf
theorem Z5v {cf : CFn} {a : AAct} {h h' : H} {d : D} (hf : Zbj cf a h = .ok d h') : h' = h := by
  unfold Zbj at hf
  split at hf
  · cases hf; rfl
  · cases hf
theorem Zzp {cf : CFn} {a : AAct} {h h' : H} {p : Bool} {d : D} (hf : Zbj cf a h = .mk p d h') : p = false := by
  cases p with
  | false => rfl
  | true =>
    unfold Zbj at hf
    split at hf <;> cases hf
def Zp (P : Program) (f : Nat) (lf : List D → H → O D) (glob : Nat → Option (List D)) : Prop := ∀ ds h p d h',lf ds h = .mk p d h' → ∀ top g w args,h'.next ≤ top → R P top g h w → XB g glob → Zk g ds args.toList →
  ((callFunc f args).run P w = .ok (.enter f args) w ∧ Calls P f args w fun e w' => ∃ v,e = Z8k p v ∧ ZB P top g h w d h' v w') ∨
  (p = false ∧ ∃ v w',(callFunc f args).run P w = .ok (.value v) w' ∧ ZB P top g h w d h' v w')
structure Told (P : Program) (glob : Nat → Option (List D)) (E : Env) : Prop where
  prog : E.P = P
  orders : P.follows .mixedOrders = true
  fns : ∀ f cf,E.fns f = some cf → ∃ fn back,P.funcs[f]? = some fn ∧ (fn.name == "runtime.NumGoroutine") = false ∧ cfn P glob back fn = some cf ∧ Ztf P glob fn.ntmps E back
  dfrs : ∀ f p,E.dfrs f = some p → ∃ fn,P.funcs[f]? = some fn ∧ (fn.name == "runtime.NumGoroutine") = false ∧ Z89 P glob fn = some p
  lib : ∀ f lf,E.lib f = some lf → Zp P f lf glob
  libgrow : ∀ f lf,E.lib f = some lf → ∀ ds h,Xv h (lf ds h)
theorem Z47 {f : Nat} {fn : Func} {c : Code} {args : Array Value} {w : World} (hfn : P.funcs[f]? = some fn) (hname : (fn.name == "runtime.NumGoroutine") = false) (hbody : fn.body = some c) : (callFunc f args).run P w = .ok (.enter f args) w := by
  unfold callFunc
  simp only [program,Sem.run_bind,Sem.run,hfn,Result.andThen_ok,hname,hbody]
  simp
theorem Z1r {fn : Func} {p : Option Nat × CC} (h : Z89 P glob fn = some p) : ∃ id o rest c,fn.body = some (.seq (.region id #[o] false) rest) ∧ o.op = .call c ∧ o.guard = none ∧ c.callee = .builtin .recover ∧ c.args = #[] ∧ Zfx fn.ntmps o.dst = true ∧ fn.results = #[] ∧
    p.1 = o.dst ∧ ZJ P glob fn.ntmps none rest = some p.2 := by
  unfold Z89 at h
  split at h
  · rename_i id ops d rest hb
    split at h
    · rename_i o ho
      split at h
      · rename_i c hop hgd
        split at h
        · rename_i hcal harg
          cases hcd : (!d && Zfx fn.ntmps o.dst && fn.results.isEmpty) with
          | false => rw [hcd] at h; cases h
          | true =>
            rw [hcd] at h
            simp only [Bool.and_eq_true,Bool.not_eq_true'] at hcd
            obtain ⟨cc,hcc,rfl⟩ := map_some h
            have hops : ops = #[o] := by
              have := congrArg List.toArray ho
              simpa using this
            refine ⟨id,o,rest,c, ?_,hop,hgd,hcal,by simpa using harg,hcd.1.2,by simpa using hcd.2,rfl,hcc⟩
            rw [hb,hops,hcd.1.1]
        · cases h
      · cases h
    · cases h
  · cases h
def Zx7 (g : G) (r : Option D) (u : FrameMode) : Prop :=
  match r with
  | none => u = .returning
  | some d => ∃ v,u = .panicking [{ v,recovered := false }] ∧ VRel g d v
theorem Zen.one {g : G} {ds : List D} {df : D} {vs : List Deferred} (hds : ds = [df]) (h : Zen g ds vs) : ∃ (f : Nat) (x y : List D) (first cap : Array Value),df = .func (.func f) x y ∧ vs = [{ target := .fn (.func f) cap,args := first }] ∧ Zk g x first.toList ∧ Zk g y cap.toList := by
  unfold Zen at h
  split at h
  · cases hds
  · rename_i f x y r d rs
    cases hds
    obtain ⟨⟨first,cap,rfl,h1,h2⟩,h3⟩ := h
    cases rs with
    | nil => exact ⟨f,x,y,first,cap,rfl,rfl,h1,h2⟩
    | cons _ _ => exact h3.elim
  · exact h.elim
theorem Z1l {call : Call} (ht : Told P glob E) (hcall : WE P call glob) (hcn : ZX call) {n : Nat} {df : D} {r : Option D} {h h2 : H} (hd : Zfh E call n df r h = some h2) {dv : Deferred} {ds : List D} {g : G} {w : World} {u : FrameMode}
    (hr : R P top g h w) (htop : h2.next ≤ top) (hg : XB g glob) (hdf : Zen g [df] [dv]) (hu : Zx7 g r u) {K : World → Prop} (hK : ∀ w' g',Ext g h w g' h2 w' → R P top g' h2 w' → K w') :
    u ≠ .run ∧ ∃ fv cap f args,dv.target = .fn fv cap ∧ (invoke dv.target dv.args).run P w = .ok (.enter f args) w ∧
      CallsD P f args u w fun
        | .returned _,u',w' => settle u' = .returning ∧ K w'
        | _,_,_ => False := by
  refine ⟨?_, ?_⟩
  · cases r with
    | none => have : u = .returning := hu
              rw [this]; simp
    | some d => obtain ⟨v,rfl,_⟩ := hu; simp
  obtain ⟨gf,x,y,first,cap,rfl,hvs,hx,hy⟩ := Zen.one rfl hdf
  cases hvs
  · unfold Zfh at hd
    simp only at hd
    split at hd
    · rename_i p hp
      obtain ⟨fn,hfn,hname,hcd⟩ := ht.dfrs gf p hp
      obtain ⟨id,o,rest,c,hbody,hop,hgd,hcal,harg,hdst,hres,hp1,hcc⟩ := Z1r hcd
      split at hd
      · rename_i e b h3 hb
        refine ⟨_,_,gf,first ++ cap,rfl, ?_, ?_⟩
        · have : (invoke (.fn (.func gf) cap) first).run P w = (callFunc gf (first ++ cap)).run P w := rfl
          exact this.trans (Z47 hfn hname hbody)
        · refine callsD_of_wpS hfn hbody fun c₀ cs hc0 => ?_
          have hex : ∀ ρ : Operand → Value,(execOp ρ o).run P w = .ok .recover w := fun ρ => by
            simp [execOp,hop,resolve,hcal,harg,invoke,builtin]
          have hA := Zk1 (g := g) (ds := x ++ y) (args := first ++ cap) (by simpa using hx.append hy) fn.ntmps
          have go : ∀ (v : Value) (u' : FrameMode),VRel g (Zlb r) v → settle u' = .returning →
              rest.wpS P (bodyPostS P fn c₀ cs fun
                | .returned _,u',w' => settle u' = .returning ∧ K w'
                | _,_,_ => False) (Act.put { tmps := (first ++ cap) ++ Array.replicate (fn.ntmps - (first ++ cap).size) undef,defers := [] } p.1 v) ({ c₀ with mode := u' } :: cs) w := by
            intro v u' hv hset
            have hA2 := hA.put hdst hv
            rw [← hp1] at hA2
            have hgo := Zvz hcall hcn ht.prog (Zvs ht.prog ht.orders) Zku n rest p.2 _ h (.exit e) b h3 hcc hb
            have fin : e ≠ .exit 0 → ∀ (w' : World) (g' : G) (A' : Act),h3 = h2 → b.defers = [] → Ext g h w g' h3 w' → R P top g' h3 w' → ARel g' b A' fn.ntmps → A'.defers = [] ∧ ∃ u'',({ c₀ with mode := u' } :: cs) = { c₀ with mode := u'' } :: cs ∧ ∃ v,(results fn A'.tmps).run P w' = .ok v w' ∧ settle u'' = .returning ∧ K w' := by
              intro _ w' g' A' he3 hbd hE' hR' hA'
              subst he3
              refine ⟨?_,u',rfl,.tuple #[], ?_,hset,hK w' g' hE' hR'⟩
              · have := hA'.dfr
                rw [hbd] at this
                cases hAd : A'.defers with
                | nil => rfl
                | cons _ _ => rw [hAd] at this; exact this.elim
              · unfold results
                rw [hres]
                simp
            refine wpS_of_wp (hgo top g w _ _ ?_ hr hA2 hg fun w' g' A' xx hE' hR' hA' hxx => ?_)
            · cases e with
              | exit _ => cases hd
              | normal => simp only at hd; split at hd <;> cases hd; exact htop
              | ret => simp only at hd; split at hd <;> cases hd; exact htop
            · cases hxx
              cases e with
              | exit _ => cases hd
              | normal =>
                simp only at hd
                split at hd
                · rename_i hbd; cases hd; exact fin (by simp) w' g' A' rfl hbd hE' hR' hA'
                · cases hd
              | ret =>
                simp only at hd
                split at hd
                · rename_i hbd; cases hd; exact fin (by simp) w' g' A' rfl hbd hE' hR' hA'
                · cases hd
          refine wpS_seq (wpS_region ?_)
          have hlist : List.range (#[o] : Array Oper).size = [0] := rfl
          rw [hlist]
          simp only [wpOpsS]
          have h0 : (#[o] : Array Oper)[0]? = some o := rfl
          rw [h0]
          simp only
          have hwant : ∀ y,Region.wanted o y = true := fun y => by unfold Region.wanted; rw [hgd]
          rw [if_pos (hwant _),hex]
          simp only
          cases r with
          | none =>
            have hu' : u = .returning := hu
            have hrec : recoverD (c₀ :: cs) = none := by
              unfold recoverD
              simp only [hc0,hu']
            rw [hrec]
            simp only
            have := go .nilIface .returning (.v _) rfl
            rw [hp1] at this
            have hc0' : ({ c₀ with mode := .returning } : Frame) = c₀ := by
              rw [← hu',← hc0]
            rw [hc0'] at this
            exact this
          | some d =>
            obtain ⟨v,hu',hv⟩ := hu
            have hrec : recoverD (c₀ :: cs) = some (v, { c₀ with mode := .panicking [{ v,recovered := true }] } :: cs) := by
              unfold recoverD
              simp only [hc0,hu']
            rw [hrec]
            simp only
            rw [← hp1]
            exact go v (.panicking [{ v,recovered := true }]) hv rfl
      · cases hd
    · cases hd
def RelBy (r : Option D) (g : G) (a : AAct) (A : Act) (N : Nat) : Prop :=
  match r with
  | none => ARel g a A N
  | some _ => PRel g a A N
theorem Z0y {call : Call} (ht : Told P glob E) (hcall : WE P call glob) (hcn : ZX call) {n : Nat} {fn : Func} {cf : CFn} {r : Option D} {a : AAct} {h h' : H} {p : Bool} {d : D} (hl : Vg E call n cf r a h = .mk p d h') {g : G} {w : World} {A : Act} {N : Nat} {u : FrameMode}
    (hr : R P top g h w) (htop : h'.next ≤ top) (hg : XB g glob) (hA0 : RelBy r g a A N) (hu : Zx7 g r u) (hc : Zxv P fn.results.toList = some cf.results) {K : Ending → World → Prop}
    (hK : ∀ v w' g',Ext g h w g' h' w' → R P top g' h' w' → VRel g' d v → K (Z8k p v) w') : Leaves P fn A.tmps K A.defers u w := by
  unfold Vg at hl
  have hA1 : ARel g a A N ∨ (a.defers = [] ∧ A.defers = []) := by
    cases r with
    | none => exact .inl hA0
    | some d => exact hA0
  split at hl
  · rename_i hd0
    have hAd : A.defers = [] := by
      rcases hA1 with hA | ⟨_,h0⟩
      · have hdf := hA.dfr
        rw [hd0] at hdf
        cases hAd : A.defers with
        | nil => rfl
        | cons _ _ => rw [hAd] at hdf; exact hdf.elim
      · exact h0
    rw [hAd]
    split at hl
    · have hA : ARel g a A N := hA0
      have hpf := Zzp hl
      subst hpf
      obtain ⟨rfl,v,hv,hvr⟩ := Zmf (fn := fn) (cf := cf) hr hA hc hl
      have hu' : u = .returning := hu
      rw [hu']
      exact ⟨v,hv,hK v w g (.refl g _ w) hr hvr⟩
    · rename_i d0
      cases p with
      | false => cases hl
      | true =>
        cases hl
        obtain ⟨v,rfl,hv⟩ := hu
        exact hK v w g (.refl g _ w) hr hv
  · rename_i df hd0
    have hA : ARel g a A N := hA1.resolve_right fun hh => by rw [hd0] at hh; cases hh.1
    have hdf := hA.dfr
    rw [hd0] at hdf
    obtain ⟨_,_,_,_,_,_,hAd,_⟩ := Zen.one rfl hdf
    rw [hAd] at hdf ⊢
    split at hl
    · rename_i h2 hcd
      have hpf := Zzp hl
      subst hpf
      have hmem := Z5v hl
      subst hmem
      obtain ⟨hrun,fv,cap,f,args,h1,h3,h4⟩ := Z1l (K := fun w' => ∃ v,(results fn A.tmps).run P w' = .ok v w' ∧ K (.returned v) w') (ds := []) ht hcall hcn hcd hr htop hg hdf hu fun w' g' hE' hR' => by
        obtain ⟨_,v,hv,hvr⟩ := Zmf (fn := fn) (cf := cf) hR' (hA.mono hE'.le) hc hl
        exact ⟨v,hv,hK v w' g' hE' hR' hvr⟩
      refine ⟨hrun,fv,cap,f,args,h1,h3, ?_⟩
      intro c₀ cs hc0
      obtain ⟨e,u',w',fr,hR,hs⟩ := h4 c₀ cs hc0
      refine ⟨e,u',w',fr, ?_,hs⟩
      cases e with
      | returned v => obtain ⟨h5,h6⟩ := hR; simp only; rw [h5]; exact h6
      | panicked ch => exact hR.elim
      | outgrown => exact hR.elim
    · cases p <;> cases hl
  · cases p <;> cases hl
theorem Zks (ht : Told P glob E) : ∀ n,WE P (Zdk E n) glob := by
  intro n
  induction n with
  | zero => intro f ds h p d h' hrun; simp only [Zdk] at hrun; cases p <;> cases hrun
  | succ n ih =>
    intro f ds h p d h' hrun top g w args htop hr hg hds
    simp only [Zdk] at hrun
    split at hrun
    · rename_i lf hl
      exact ht.lib f lf hl ds h p d h' hrun top g w args htop hr hg hds
    · split at hrun
      · cases p <;> cases hrun
      · rename_i cf hcf
        obtain ⟨fn,back,hfn,hname,hc,hback⟩ := ht.fns f cf hcf
        unfold cfn at hc
        split at hc
        · rename_i c hbody
          split at hc
          · rename_i rs cc hres hcc
            cases hc
            refine .inl ⟨Z47 hfn hname hbody, ?_⟩
            have hcn := Zd0 ht.libgrow n
            have main : ∀ (x : AEnd) (r : Option D) (a1 : AAct) (h1 : H),Zc E (Zdk E n) n cc (start ds none) h = .mk x a1 h1 → Vg E (Zdk E n) n ⟨rs,cc⟩ r a1 h1 = .mk p d h' →
                (∀ g' A',x.act g' a1 A' fn.ntmps → RelBy r g' a1 A' fn.ntmps) → (∀ g' xx,x.ends g' xx → (∃ u,Zx7 g' r u ∧ ∀ A' w' K,Leaves P fn A'.tmps K A'.defers u w' → bodyPostD P fn K xx A' w')) →
                Calls P f args w fun e w' => ∃ v,e = Z8k p v ∧ ZB P top g h w d h' v w' := by
              intro x r a1 h1 hrc hlv hact hx
              have hgo := Zvz ih hcn ht.prog (Zvs ht.prog ht.orders) hback n c cc (start ds none) h x a1 h1 hcc hrc
              have hgr : Xv h1 (.mk p d h') := by rw [← hlv]; exact Zh2 hcn
              refine calls_of_wp_defers hfn hbody (hgo top g w _ _ (Nat.le_trans hgr.mk.next htop) hr (Zk1 hds _) hg fun w' g' A' xx hE' hR' hA' hxx => ?_)
              obtain ⟨u,hu,hb⟩ := hx g' xx hxx
              refine hb A' w' _ (Z0y ht ih hcn hlv hR' htop (XB.mono hE'.le hg) (hact g' A' hA') hu hres fun v w'' g'' hE'' hR'' hV'' => ⟨v,rfl,g'',Ext.trans hr hR' hE' hE'',hR'',hV''⟩)
            split at hrun
            · rename_i e1 a1 h1 hrc
              cases e1 with
              | exit id => cases p <;> cases hrun
              | normal => exact main (.exit .normal) none a1 h1 hrc hrun (fun _ _ h => h) fun g' xx hxx => by cases hxx; exact ⟨_,rfl,fun A' w' K hl => hl⟩
              | ret => exact main (.exit .ret) none a1 h1 hrc hrun (fun _ _ h => h) fun g' xx hxx => by cases hxx; exact ⟨_,rfl,fun A' w' K hl => hl⟩
            · rename_i d0 a1 h1 hrc
              exact main (.panic d0) (some d0) a1 h1 hrc hrun (fun _ _ h => h) fun g' xx hxx => by obtain ⟨v,rfl,hv⟩ := hxx; exact ⟨_,⟨v,rfl,hv⟩,fun A' w' K hl => hl⟩
            · cases p <;> cases hrun
          · cases hc
        · cases hc
end
end
end Go.Abs
namespace Go.Abs
noncomputable section
def Ztj (r : Option Nat) : Fence := { Fence.wide with round := r }
def Zcr (A : Act) (ds : List Deferred) : Act := { A with defers := ds }
theorem Zhh (A : Act) (ds : List Deferred) (dst : Option Tmp) (v : Value) : (Zcr A ds).put dst v = Zcr (A.put dst v) ds := by
  cases dst <;> rfl
theorem Zqr (A : Act) (ds : List Deferred) : (Zcr A ds).eval = A.eval := rfl
def Z55 (ds : List Deferred) (Q : Exit → Act → World → Prop) : Exit → Act → World → Prop := fun x A w => x ≠ .outgrown ∧ Q x (Zcr A ds) w
theorem Znn {ds : List Deferred} {Q : Exit → Act → World → Prop} : ¬ LetsOut (Z55 ds Q) := fun ⟨_,_,h,_⟩ => h rfl
section
variable {P : Program} {r : Option Nat} {m : Nat} {ds : List Deferred} {Q : Exit → Act → World → Prop}
theorem Z1s {f : FuncId} {args : Array Value} {w : World} {R : Ending → World → Prop} (h : Calls P f args w R) (n : Nat) : CallsIn (Ztj r) n P f args w R := callsIn_wide.2 h
theorem Z3e {row : String} {args : Array Value} {w : World} {R : Value → World → Prop} (h : Rows P row args w R) (n : Nat) : RowsIn (Ztj r) n P row args w R := fun c cs _ => by
  obtain ⟨v,w',h1,h2⟩ := h c cs
  exact ⟨v,w',h1,stepsIn_wide.2 h2⟩
theorem Z7c (o : Oper) (hd : ∀ c,o.op ≠ .defer c) (ρ : Operand → Value) : o.semAt r ρ = execOp ρ o := by
  cases r with
  | none => rfl
  | some l => exact Oper.semAt_some l ρ o hd
theorem Z7t {o : Oper} (hd : ∀ c,o.op ≠ .defer c) {A : Act} {w : World} {K : Act → World → Prop} (h : o.wp P A w (fun A' w' => A'.defers = [] ∧ K (Zcr A' ds) w') (Z55 ds Q)) : o.wpIn (Ztj r) m P (Zcr A ds) w K Q := by
  unfold Oper.wp at h
  unfold Oper.wpIn
  refine ⟨fun _ _ => trivial, ?_⟩
  rw [show (Ztj r).round = r from rfl,Z7c o hd,Zqr]
  generalize (execOp A.eval o).run P w = x at h ⊢
  cases x with
  | ok y w' =>
    cases y with
    | value v => simp only [Oper.upon,Oper.uponIn] at h ⊢; rw [Zhh]; exact h.2
    | skip => simp only [Oper.upon,Oper.uponIn] at h ⊢; rw [Zhh]; exact h.2
    | enter f args =>
      simp only [Oper.upon,Oper.uponIn] at h ⊢
      refine ⟨(fun e => by cases e),(Z1s h (m - 1)).mono ?_⟩
      intro e w'' he
      cases e with
      | returned v => simp only at he ⊢; rw [Zhh]; exact he.2
      | panicked ch => exact he.2
      | outgrown => exact absurd he Znn
    | row row args =>
      simp only [Oper.upon,Oper.uponIn] at h ⊢
      refine ⟨(fun e => by cases e),(Z3e h (m - 1)).mono ?_⟩
      intro v w'' he
      rw [Zhh]; exact he.2
    | defer d =>
      have h1 := h.1
      cases hdst : o.dst with
      | none => rw [hdst] at h1; cases h1
      | some t => rw [hdst] at h1; cases h1
    | _ => exact h.elim
  | halt y w' =>
    cases y with
    | panic v => exact h.2
    | _ => exact h.elim
theorem op_in {ops : Array Oper} {i : Nat} (hd : ∀ o,ops[i]? = some o → ∀ c,o.op ≠ .defer c) {A : Act} {w : World} {K : Act → World → Prop} (h : wpOp P ops (Z55 ds Q) i (fun A' w' => A'.defers = [] ∧ K (Zcr A' ds) w') A w) : wpOpIn (Ztj r) m P ops Q i K (Zcr A ds) w := by
  unfold wpOp at h
  unfold wpOpIn
  cases ho : ops[i]? with
  | none => rw [ho] at h; exact h.2
  | some o =>
    rw [ho] at h
    simp only at h ⊢
    split
    · rename_i hw
      have hw' : Region.wanted o (yielded ops A.tmps) = true := hw
      rw [if_pos hw'] at h
      exact Z7t (hd o ho) (h.resolve_right fun h => Znn h.2)
    · rename_i hw
      have hw' : ¬ Region.wanted o (yielded ops A.tmps) = true := hw
      rw [if_neg hw'] at h
      exact ⟨fun _ _ => trivial,by rw [Zhh]; exact h.2⟩
def Zor (l : List CO) : Bool := l.all fun o => match o.op with
  | .dfr _ => false
  | _ => true
theorem Zuy {glob : Nat → Option (List D)} {o : Oper} {c : COp} (hc : Zp4 P glob o = some c) (hn : ∀ x,c ≠ .dfr x) : ∀ d,o.op ≠ .defer d := by
  intro d hd
  unfold Zp4 at hc
  rw [hd] at hc
  simp only at hc
  split at hc
  · obtain ⟨x,_,rfl⟩ := map_some hc
    exact hn _ rfl
  · cases hc
end
section
variable {P : Program} {glob : Nat → Option (List D)} {N : Nat} {r : Option Nat} {m : Nat} {ds : List Deferred} {top : Nat}
theorem Zen.nil {g : G} {vs : List Deferred} (h : Zen g [] vs) : vs = [] := by
  cases vs with
  | nil => rfl
  | cons _ _ => exact h.elim
theorem Zlk {ops : Array Oper} {call : Call} (hcall : WE P call glob) (hcn : ZX call) (E : Env) (hE : E.P = P) {Q : Exit → Act → World → Prop} :
    ∀ (l : List Oper) (k : Nat) {cl : List CO} {g : G} {h h' : H} {w : World} {a a' : AAct} {A : Act} {e : AExit},(∀ j,l[j]? = ops[k + j]?) → Zhc P glob N ops.toList l = some cl → Zor cl = true → a.defers = [] → ARel g a A N → (∀ i cs,glob i = some cs → VRel g (.ep cs) (.pointer (some ⟨i,0,none⟩))) → R P top g h w → h'.next ≤ top →
      ZP E call cl a h = .out e a' h' → (∀ w' g' A',Ext g h w g' h' w' → R P top g' h' w' → ARel g' a' A' N → a'.defers = [] → e = .normal → Q .normal (Zcr A' ds) w') → wpOpsIn (Ztj r) m P ops Q (List.range' k l.length) (Zcr A ds) w
  | [],k,cl,g,h,h',w,a,a',A,e,hk,hc,hn,hd,hA,hg,hr,htop,hrun,hQ => by
    simp [Zhc] at hc; subst hc
    simp only [ZP] at hrun
    cases hrun
    exact hQ w g A (.refl g _ w) hr hA hd rfl
  | o :: l,k,cl,g,h,h',w,a,a',A,e,hk,hc,hn,hd,hA,hg,hr,htop,hrun,hQ => by
    simp only [Zhc] at hc
    split at hc
    · rename_i gd c cr h1 h2 h3
      cases hdo : Zfx N o.dst with
      | false => rw [hdo] at hc; cases hc
      | true =>
        rw [hdo] at hc
        cases hc
        have hn2 : (∀ x,c ≠ .dfr x) ∧ Zor cr = true := by
          unfold Zor at hn
          rw [List.all_cons,Bool.and_eq_true] at hn
          refine ⟨fun x hx => ?_,hn.2⟩
          subst hx
          have := hn.1
          cases this
        have hw := Zcb rfl (c := c) h1 hA
        simp only [ZP] at hrun
        have h0 : ops[k]? = some o := (hk 0).symm
        have hk1 : ∀ j,l[j]? = ops[k + 1 + j]? := fun j => by have := hk (j + 1); rw [show k + (j + 1) = k + 1 + j by omega] at this; exact this
        simp only [List.length_cons,List.range'_succ]
        rw [wpOpsIn_cons]
        refine op_in (fun o' ho' => by rw [h0] at ho'; cases ho'; exact Zuy h2 hn2.1) ?_
        unfold wpOp
        rw [h0]
        simp only
        cases hwa : Zn a ⟨o.dst,gd,c⟩ with
        | false =>
          rw [hwa] at hrun hw
          simp only [cond_false] at hrun
          rw [hw,if_neg (by simp)]
          have hA2 := hA.put hdo (.undef g)
          have hd2 : (a.put o.dst ZD).defers = [] := (AAct.put_defers' _ _ _).trans hd
          have hdd := hA2.dfr
          rw [hd2] at hdd
          exact ⟨hdd.nil,Zlk hcall hcn E hE l (k + 1) hk1 h3 hn2.2 hd2 hA2 hg hr htop hrun hQ⟩
        | true =>
          rw [hwa] at hrun hw
          simp only [cond_true] at hrun
          rw [hw,if_pos rfl]
          refine .inl ?_
          have hrun2 : (match UO E call a c h with
              | .ok d h => ZP E call cr (a.put o.dst d) h
              | .panic d h => .panic d a h
              | .fail w => .fail w) = X.out e a' h' := by
            cases c <;> first | exact hrun | exact absurd rfl (hn2.1 _)
          split at hrun2
          · rename_i d2 h2' hcrun
            have hgr := Zac (E := E) hcn cr (a.put o.dst d2) h2'
            rw [hrun2] at hgr
            refine Zkc (p := false) h2 hA hg hr (Nat.le_trans (show h2'.next ≤ h'.next from Grow.next hgr) htop) hcall E hE hcrun (fun _ v w' g' hE' hR' hV' => ?_) (fun hh => by cases hh)
            have hg' : ∀ i cs,glob i = some cs → VRel g' (.ep cs) (.pointer (some ⟨i,0,none⟩)) := fun i cs hh => (hg i cs hh).mono hE'.le
            have hA2 := (hA.mono hE'.le).put hdo hV'
            have hd2 : (a.put o.dst d2).defers = [] := (AAct.put_defers' _ _ _).trans hd
            have hdd := hA2.dfr
            rw [hd2] at hdd
            exact ⟨hdd.nil,Zlk hcall hcn E hE l (k + 1) hk1 h3 hn2.2 hd2 hA2 hg' hR' htop hrun2 fun w'' g'' A'' hE'' hR'' hA'' hd'' he => hQ w'' g'' A'' (Ext.trans hr hR' hE' hE'') hR'' hA'' hd'' he⟩
          · cases hrun2
          · cases hrun2
    · cases hc
end
section
variable {P : Program} {glob : Nat → Option (List D)} {N : Nat} {E : Env} {call : Call} {ops : Array Oper} {l : List CO} {aT : Nat → AAct} {hT : Nat → H} {rT : Nat → List Rec}
variable {top : Nat} {g0 g : G} {w0 w : World} {aS : AAct} {A : Act} {r : Option Nat} {m : Nat} {ds : List Deferred}
theorem Z1t (hnd : ∀ (i : Nat) (o : Oper),ops[i]? = some o → ∀ c,o.op ≠ .defer c) (h0d : (aT 0).defers = []) (hE : E.P = P) (hcall : WE P call glob) (hR : Run P glob N E call ops ops.size l aT hT rT) (hr0 : R P top g0 (hT 0) w0) (htop : (hT ops.size).next ≤ top) (hg0 : XB g0 glob) {Q : Exit → Act → World → Prop}
    (hQ : ∀ w' g' A',Ext g0 (hT 0) w0 g' (hT ops.size) w' → R P top g' (hT ops.size) w' → ARel g' (aT ops.size) A' N → Q .normal (Zcr A' ds) w') :
    ∀ (fuel : Nat) (listed : Array Bool) {g : G} {mem : Nat → Option AObj} {aS : AAct} {A : Act} {w : World},listed.size = ops.size → Xq ops listed ≤ fuel → WInv P N ops ops.size l aT hT top g0 w0 (YL listed) g mem aS A w → wpAnyIn (Ztj r) m P .any ops Q fuel listed (Zcr A ds) w := by
  have fin : ∀ (listed : Array Bool) {g : G} {mem : Nat → Option AObj} {aS : AAct} {A : Act} {w : World},listed.size = ops.size → Region.ready .any ops listed = [] → WInv P N ops ops.size l aT hT top g0 w0 (YL listed) g mem aS A w → Q .normal (Zcr A ds) w := by
    intro listed g mem aS A w hsz hr hI
    have hall := Zj0 hR hsz hr
    have hD : Zrt (hT 0) := hr0.dom
    have hDn := hR.dom hD (Nat.le_refl _)
    have hfirst : First ops.size l aT (YL listed) ops.size := ⟨Nat.le_refl _,fun j hj _ => hall j hj,fun h => absurd h (Nat.lt_irrefl _)⟩
    have hR' : R P top g (hT ops.size) w := hI.core.toR (fun k ob hk => by
        have hlt : k < (hT ops.size).next := Nat.lt_of_not_le fun hq => by rw [hDn k hq] at hk; cases hk
        have hcv : ∃ m,m ≤ ops.size ∧ Zp6 ops.size hT (YL listed) k m := by
          rcases hR.made (Nat.le_refl _) hlt with h | ⟨m,hm,h1,h2⟩
          · exact ⟨0,Nat.zero_le _,.inl ⟨rfl,h⟩⟩
          · exact ⟨m + 1,hm,.inr ⟨m,rfl,hm,hall m hm,h1,h2⟩⟩
        obtain ⟨m,hm,hcv⟩ := hcv
        rw [hI.m.cov _ hfirst k m hcv,Nat.max_eq_left hm,hk])
      (fun k h1 h2 => hI.fresh k h2 fun m hcv => by
        rcases hcv with ⟨_,h3⟩ | ⟨j,_,h3,_,_,h4⟩
        · have := hR.first_le (Nat.le_refl ops.size); omega
        · have := hR.nx (i := j + 1) (j := ops.size) h3 (Nat.le_refl _); omega)
      hDn htop (Nat.lt_of_lt_of_le hr0.pos.1 (hR.first_le (Nat.le_refl _)))
    refine hQ w g A hI.ext hR' ⟨fun t => ?_,hI.arel.size,by rw [hR.noDefers (Nat.le_refl _),← hI.nod]; exact hI.arel.dfr⟩
    rw [← hI.tmp t ops.size (Nat.le_refl _) fun k c hc _ => ⟨fun h => by have := h.1; omega,fun h => hall k h⟩]
    exact hI.arel.tmp t
  intro fuel
  induction fuel with
  | zero =>
    intro listed g mem aS A w hsz hcount hI
    have hr : Region.ready .any ops listed = [] := by
      unfold Region.ready
      rw [List.filter_eq_nil_iff]
      intro i hi
      have h0 : (List.range ops.size).filter (fun i => !listed.getD i true) = [] := List.length_eq_zero_iff.1 (Nat.le_zero.1 hcount)
      rw [List.filter_eq_nil_iff] at h0
      have := h0 i hi
      simp only [Bool.not_eq_true,Bool.not_eq_false'] at this
      simp [this]
    exact ⟨hr,fin listed hsz hr hI⟩
  | succ fuel ih =>
    intro listed g mem aS A w hsz hcount hI
    refine ⟨fun hr => fin listed hsz hr hI,fun i hir => ?_⟩
    unfold Region.ready at hir
    rw [List.mem_filter] at hir
    obtain ⟨hi,hcond⟩ := hir
    have hi' : i < ops.size := by simpa using hi
    have ho : ops[i]? = some ops[i] := by simp [hi']
    rw [ho] at hcond
    simp only [Option.map_some,Option.getD_some,Bool.and_eq_true,Bool.not_eq_true',Array.all_eq_true',Bool.or_eq_true] at hcond
    have hil : i < listed.size := by omega
    have hS : ¬ YL listed i := fun hs => by
      have h1 := hs.2
      have h2 := hcond.1
      simp [hil] at h1 h2
      rw [h1] at h2; cases h2
    have hed : ∀ e ∈ ops[i].after,Region.binds .any e = true → YL listed e.on := fun e he hb => by
      rcases hcond.2 e he with h | h
      · rw [hb] at h; cases h
      · have := hR.edge i _ ho e he hb
        exact ⟨by omega,h⟩
    refine op_in (hnd i) (hI.step hE hcall hR hr0 htop hg0 hi' hS (Zjc hR hI.m.closed ho hed) fun g' mem' aS' A' w' hI' => ⟨?_, ?_⟩)
    · have hdd := hI'.arel.dfr
      rw [hI'.nod,h0d] at hdd
      exact hdd.nil
    · refine ih (listed.setIfInBounds i true) (by simpa using hsz) ?_ (hI'.congr fun j => (Zjo hil).symm)
      have hlt : Xq ops (listed.setIfInBounds i true) + 1 ≤ Xq ops listed := by
        unfold Xq
        refine Zil _ (fun x hx => ?_) ⟨i,hi, ?_, ?_⟩
        · by_cases e : x = i
          · subst e; simp [hil]
          · simp [Array.getElem?_setIfInBounds_ne (Ne.symm e)]
        · simp [hcond.1]
        · simp [hil]
      omega
end
theorem Ztk {r : Option Nat} {m : Nat} {P : Program} {Q : Exit → Act → World → Prop} {pm iv : List Nat} {ops : Array Oper} (h : Wf pm iv ops.size = true) {i : Nat} (hi : i < ops.size) {K : Act → World → Prop} {a : Act} {w : World} (hw : wpOpIn (Ztj r) m P (Zfp pm iv ops) Q (Zkx iv i) K a w) : wpOpIn (Ztj r) m P ops Q i K a w := by
  unfold wpOpIn at hw ⊢
  have e : ops[i]? = some ops[i] := by simp [hi]
  rw [Zie h hi] at hw
  rw [e]
  simp only [Zl9 h] at hw ⊢
  exact hw
theorem Zrw {r : Option Nat} {m : Nat} {P : Program} {Q : Exit → Act → World → Prop} {pm iv : List Nat} {ops : Array Oper} (h : Wf pm iv ops.size = true) : ∀ (fuel : Nat) (ls ls' : Array Bool) (a : Act) (w : World),ls.size = ops.size → ls'.size = ops.size → (∀ k,k < ops.size → ls'[Zkx iv k]? = ls[k]?) →
    wpAnyIn (Ztj r) m P .any (Zfp pm iv ops) Q fuel ls' a w → wpAnyIn (Ztj r) m P .any ops Q fuel ls a w := by
  have back : ∀ (ls ls' : Array Bool),ls.size = ops.size → ls'.size = ops.size → (∀ k,k < ops.size → ls'[Zkx iv k]? = ls[k]?) → Region.ready .any ops ls = [] → Region.ready .any (Zfp pm iv ops) ls' = [] := by
    intro ls ls' hs hs' hl h0
    refine List.eq_nil_iff_forall_not_mem.2 fun k hk => ?_
    have hk' := hk
    unfold Region.ready at hk
    rw [List.mem_filter,List.mem_range,Zfo h] at hk
    obtain ⟨hlt,hc⟩ := hk
    have hi := (UZ h hlt).1
    obtain ⟨h1,h2⟩ := Zaa h hlt
    have er : Zkx iv (pm.getD k ops.size) = k := by rw [Zcs h hi]; exact h1
    rw [← er,Zie h hi,er] at hc
    simp only [Option.map_some,Option.getD_some,Bool.and_eq_true,Bool.not_eq_true',Array.all_eq_true',Bool.or_eq_true] at hc
    have gd : ∀ k d,k < ops.size → ls'.getD (Zkx iv k) d = ls.getD k d := fun k d hk => by
      have := hl k hk
      rw [Array.getD_eq_getD_getElem?,Array.getD_eq_getD_getElem?,this]
    have : pm.getD k ops.size ∈ Region.ready .any ops ls := by
      unfold Region.ready
      rw [List.mem_filter,List.mem_range]
      refine ⟨hi, ?_⟩
      have e : ops[pm.getD k ops.size]? = some ops[pm.getD k ops.size] := by simp [hi]
      rw [e]
      simp only [Option.map_some,Option.getD_some,Bool.and_eq_true,Bool.not_eq_true',Array.all_eq_true',Bool.or_eq_true]
      refine ⟨by rw [← gd _ true hi,er]; exact hc.1,fun e0 he0 => ?_⟩
      rcases hc.2 (Zsa iv e0) (by simp only [Zn2,Array.mem_map]; exact ⟨e0,he0,rfl⟩) with hb | hb
      · exact .inl hb
      · by_cases hk : e0.on < ops.size
        · exact .inr (by rw [← gd _ false hk]; exact hb)
        · exfalso
          have hb : ls'.getD (Zkx iv e0.on) false = true := hb
          rw [Zwv h (by omega),Array.getD_eq_getD_getElem?,Array.getElem?_eq_none (by omega)] at hb
          cases hb
    rw [h0] at this
    cases this
  intro fuel
  induction fuel with
  | zero =>
    intro ls ls' a w hs hs' hl hw
    refine ⟨List.eq_nil_iff_forall_not_mem.2 fun i hi => ?_,hw.2⟩
    have := Zgd h hs hs' hl hi
    rw [hw.1] at this
    cases this
  | succ fuel ih =>
    intro ls ls' a w hs hs' hl hw
    refine ⟨fun h0 => hw.1 (back ls ls' hs hs' hl h0),fun i hi => ?_⟩
    have hlt : i < ops.size := by
      unfold Region.ready at hi
      rw [List.mem_filter,List.mem_range] at hi
      exact hi.1
    refine Ztk h hlt (wpOpIn_mono (fun a' w' hk => ih _ _ a' w' (by simpa using hs) (by simpa using hs') (fun k hk' => ?_) hk) (hw.2 _ (Zgd h hs hs' hl hi)))
    have hri := (UZ h hlt).2
    rw [← Zcs h hlt] at hri
    by_cases hki : k = i
    · subst hki
      simp [hs,hs',hlt,hri]
    · have hne : Zkx iv i ≠ Zkx iv k := fun e => by
        rw [Zcs h hlt,Zcs h hk'] at e
        have h1 := (Zaa h hlt).2
        have h2 := (Zaa h hk').2
        rw [e,h2] at h1
        exact hki h1
      rw [Array.getElem?_setIfInBounds_ne hne,Array.getElem?_setIfInBounds_ne (fun e => hki e.symm)]
      exact hl k hk'
theorem Zxs {P : Program} {glob : Nat → Option (List D)} {N : Nat} {E : Env} (hE : E.P = P) (hm : P.follows .mixedOrders = true) {call : Call} (hcall : WE P call glob) (hcg : ZX call) {r : Option Nat} {m : Nat} {ds : List Deferred} (id : Nat) (ops0 ops : Array Oper) (l : List CO) (a : AAct) (h : H) (e : AExit) (a' : AAct) (h' : H)
    (hp : ops = ops0 ∨ ∃ pm iv,Wf pm iv ops0.size = true ∧ ops = Zfp pm iv ops0) (hc : Zhc P glob N ops.toList ops.toList = some l) (hd : Zei ops.toList l (Zr ops) = true) (hrun : Yk E call 0 [] (Zr ops) l a h = .out e a' h') (hn : Zor l = true) (hda : a.defers = [])
    (top : Nat) (g : G) (w : World) (A : Act) (Q : Exit → Act → World → Prop) (htop : h'.next ≤ top) (hr : R P top g h w) (hA : ARel g a A N) (hg : XB g glob)
    (hQ : ∀ w' g' A',Ext g h w g' h' w' → R P top g' h' w' → ARel g' a' A' N → a'.defers = [] → e = .normal → Q .normal (Zcr A' ds) w') : (Code.region id ops0 true).wpIn (Ztj r) m P Q (Zcr A ds) w := by
  obtain ⟨rfl,aT,hT,rT,hR,e1,e2,e3,e4,e5⟩ := Run.of hcg hc hd hrun
  subst e1 e2 e4 e5
  have hnd : ∀ (i : Nat) (o : Oper),ops[i]? = some o → ∀ c,o.op ≠ .defer c := fun i o ho => by
    obtain ⟨gd,q,h1,h2,h3,h4⟩ := hR.op i o ho
    refine Zuy h3 fun x hx => ?_
    subst hx
    have := List.all_eq_true.1 hn _ (List.mem_of_getElem? h1)
    cases this
  have hD : Zrt (hT 0) := hr.dom
  have hnl : ∀ j,¬ YL (Array.replicate ops.size false) j := fun j hj => by
    have := hj.2
    simp [Array.getElem?_replicate] at this
    split at this <;> simp at this
  have hw : ({ w with drawn := w.drawn + 1 } : World).heap = w.heap := rfl
  have key : wpAnyIn (Ztj r) m P .any ops Q ops.size (Array.replicate ops.size false) (Zcr A ds) { w with drawn := w.drawn + 1 } := by
    refine Z1t hnd hda hE hcall hR (w0 := w) hr htop hg (fun w' g' A' hX hR' hA' => hQ w' g' A' hX hR' hA' (by rw [hR.noDefers (Nat.le_refl _)]; exact hda) rfl) ops.size _ (g := g) (mem := (hT 0).mem.get) (aS := aT 0) (by simp) ?_ ⟨⟨fun j hj => absurd hj (hnl j),fun j hj => absurd hj (hnl j),fun u hu k m hcv => ?_,fun k hk => ?_⟩,hr.toC.world hw,hA, ?_,fun k hk hno => ?_,fun t m hm' hwr => ?_,rfl⟩
    · unfold Xq
      exact Nat.le_trans (List.length_filter_le _ _) (by simp)
    · rcases hcv with ⟨h1,h2⟩ | ⟨j,_,_,h3,_⟩
      · subst h1
        rw [Nat.max_eq_left (Nat.zero_le _)]
        refine (hR.quiet (Nat.zero_le _) hu.le (fun j _ hj hl => hnl j (hu.done j hj hl)) h2).symm
      · exact absurd h3 (hnl j)
    · refine hD k (Nat.le_of_not_lt fun h1 => hk 0 (.inl ⟨rfl,h1⟩))
    · have hG := hR.growth (Nat.zero_le _) (Nat.le_refl ops.size)
      exact ⟨.refl g,fun _ _ x => x,fun _ _ => rfl,rfl,rfl,rfl,Nat.le_refl _,fun _ _ _ => rfl,hG.old,hG.next,fun _ x _ => x,fun _ _ _ _ => rfl,fun _ _ _ _ => rfl⟩
    · exact hr.name k (Nat.le_of_not_lt fun h1 => hno 0 (.inl ⟨rfl,h1⟩)) hk
    · refine (hR.keepTmp (Nat.zero_le _) hm' fun k c _ hkm hck hd' => ?_).symm
      exact hnl k ((hwr k c hck hd').2 hkm)
  rcases hp with rfl | ⟨pm,iv,hok,rfl⟩
  · exact wpIn_region_any hm key
  · refine wpIn_region_any hm ?_
    rw [Zfo hok] at key
    refine Zrw hok _ _ _ _ _ (by simp) (by simp) (fun k hk => ?_) key
    have := (UZ hok hk).2
    rw [← Zcs hok hk] at this
    simp [Array.getElem?_replicate,hk,this]
def Zhd : CC → Bool
  | .ops l => Zor l
  | .draw _ l => Zor l
  | .seq a b => Zhd a && Zhd b
  | .cond _ a b => Zhd a && Zhd b
  | .block _ c => Zhd c
  | .loop c => Zhd c
  | .back .. => false
  | _ => true
section
variable {P : Program} {glob : Nat → Option (List D)} {N : Nat} {E : Env}
def Zya (P : Program) (glob : Nat → Option (List D)) (N : Nat) (c : Code) (a : AAct) (h : H) (e : AExit) (a' : AAct) (h' : H) : Prop :=
  ∀ (r : Option Nat) (m : Nat) (ds : List Deferred) (top : Nat) (g : G) (w : World) (A : Act) (Q : Exit → Act → World → Prop),h'.next ≤ top → R P top g h w → ARel g a A N → XB g glob →
    (∀ w' g' A',Ext g h w g' h' w' → R P top g' h' w' → ARel g' a' A' N → a'.defers = [] → Q (Exit.ofA e) (Zcr A' ds) w') → c.wpIn (Ztj r) m P Q (Zcr A ds) w
end
section
variable {P : Program} {glob : Nat → Option (List D)} {N : Nat} {E : Env}
theorem Zw5 {call : Call} (hcn : ZX call) {c : Code} {cc : CC} (n : Nat) (hS : ∀ k,k ≤ n → ∀ a h e a' h',a.defers = [] → Zc E call k cc a h = .out e a' h' → Zya P glob N c a h e a' h') :
    ∀ k,k ≤ n + 1 → ∀ a h e a' h',a.defers = [] → Zc E call k (.loop cc) a h = .out e a' h' → ∀ (r : Option Nat) (m : Nat) (ds : List Deferred) (top : Nat) (g : G) (w : World) (A : Act) (Q : Exit → Act → World → Prop),h'.next ≤ top → R P top g h w → ARel g a A N → XB g glob →
      (∀ w' g' A',Ext g h w g' h' w' → R P top g' h' w' → ARel g' a' A' N → a'.defers = [] → Q (Exit.ofA e) (Zcr A' ds) w') → Code.roundsIn (Ztj r) m P c Q k (Zcr A ds) w := by
  intro k
  induction k with
  | zero => intro _ a h e a' h' _ hrun; simp only [Zc] at hrun; cases hrun
  | succ k ih =>
    intro hk a h e a' h' hda hrun r m ds top g w A Q htop hr hA hg hQ
    simp only [Zc] at hrun
    rw [roundsIn_succ]
    split at hrun
    · rename_i a1 h1 hb
      have hgr := Zae (E := E) hcn k (.loop cc) a1 h1
      rw [hrun] at hgr
      refine hS k (by omega) a h .normal a1 h1 hda hb r m ds top g w A _ (Nat.le_trans (show h1.next ≤ h'.next from Grow.next hgr) htop) hr hA hg fun w' g' A' hE' hR' hA' hd1 => ?_
      exact ih (by omega) a1 h1 e a' h' hd1 hrun r m ds top g' w' A' Q htop hR' hA' (hg.mono hE'.le) fun w'' g'' A'' hE'' hR'' hA'' hd2 => hQ w'' g'' A'' (Ext.trans hr hR' hE' hE'') hR'' hA'' hd2
    · rename_i hne
      refine hS k (by omega) a h e a' h' hda hrun r m ds top g w A _ htop hr hA hg fun w' g' A' hE' hR' hA' hd1 => ?_
      have := hQ w' g' A' hE' hR' hA' hd1
      cases e with
      | normal => exact absurd hrun (hne _ _)
      | exit id => exact this
      | ret => exact this
theorem Zpj {call : Call} (hcall : WE P call glob) (hcn : ZX call) (hE : E.P = P) (hmix : P.follows .mixedOrders = true) :
    ∀ (n : Nat) (c : Code) (cc : CC) (a : AAct) (h : H) (e : AExit) (a' : AAct) (h' : H),ZJ P glob N none c = some cc → Zhd cc = true → a.defers = [] → Zc E call n cc a h = .out e a' h' → Zya P glob N c a h e a' h' := by
  intro n
  induction n using Nat.strongRecOn with
  | _ n ih =>
    intro c cc a h e a' h' hc hcm hda hrun
    cases n with
    | zero => simp only [Zc] at hrun; cases hrun
    | succ n =>
      have ihn := ih n (Nat.lt_succ_self n)
      cases c with
      | skip =>
        simp [ZJ] at hc; subst hc
        simp only [Zc] at hrun; cases hrun
        exact fun r m ds top g w A Q htop hr hA hg hQ => wpIn_skip (hQ w g A (.refl g _ w) hr hA hda)
      | label l =>
        simp [ZJ] at hc; subst hc
        simp only [Zc] at hrun; cases hrun
        exact fun r m ds top g w A Q htop hr hA hg hQ => wpIn_label (hQ w g A (.refl g _ w) hr hA hda)
      | region id ops draw =>
        cases draw with
        | false =>
          simp only [ZJ,cond_false] at hc
          split at hc
          · rename_i l hl
            cases hc
            simp only [Zc] at hrun
            intro r m ds top g w A Q htop hr hA hg hQ
            refine wpIn_region ?_
            rw [List.range_eq_range',← Array.length_toList]
            refine Zlk hcall hcn E hE ops.toList 0 (by simp) hl hcm hda hA hg hr htop hrun fun w' g' A' h1 h2 h3 h4 h5 => ?_
            subst h5
            exact hQ w' g' A' h1 h2 h3 h4
          · cases hc
        | true =>
          simp only [ZJ,cond_true] at hc
          have one : ∀ ops' : Array Oper,Zgy P glob N ops' = some cc → ∃ l,Zhc P glob N ops'.toList ops'.toList = some l ∧ Zei ops'.toList l (Zr ops') = true ∧ Yk E call 0 [] (Zr ops') l a h = .out e a' h' ∧ Zor l = true := by
            intro ops' h1
            unfold Zgy at h1
            split at h1
            · rename_i l hl
              cases hd : Zei ops'.toList l (Zr ops') with
              | false => simp only [hd,cond_false] at h1; cases h1
              | true =>
                simp only [hd,cond_true] at h1
                cases h1
                simp only [Zc] at hrun
                exact ⟨l,hl,hd,hrun,hcm⟩
            · cases h1
          intro r m ds top g w A Q htop hr hA hg hQ
          have fin : ∀ ops' : Array Oper,(ops' = ops ∨ ∃ pm iv,Wf pm iv ops.size = true ∧ ops' = Zfp pm iv ops) → Zgy P glob N ops' = some cc → (Code.region id ops true).wpIn (Ztj r) m P Q (Zcr A ds) w := by
            intro ops' hp h1
            obtain ⟨l,hl,hd,hr1,hn1⟩ := one ops' h1
            refine Zxs hE hmix hcall hcn id ops ops' l a h e a' h' hp hl hd hr1 hn1 hda top g w A Q htop hr hA hg fun w' g' A' h1 h2 h3 h4 h5 => ?_
            subst h5
            exact hQ w' g' A' h1 h2 h3 h4
          unfold ctry at hc
          split at hc
          · rename_i c1 h1
            cases hc
            exact fin ops (.inl rfl) h1
          · simp only at hc
            cases hp : Wf (Zkb P glob ops.toList) (Z4u (Zkb P glob ops.toList) ops.size) ops.size with
            | false => rw [hp] at hc; cases hc
            | true =>
              rw [hp,cond_true] at hc
              exact fin _ (.inr ⟨_,_,hp,rfl⟩) hc
      | seq x y =>
        simp only [ZJ] at hc
        split at hc
        · rename_i cx cy hx hy
          cases hc
          simp only [Zhd,Bool.and_eq_true] at hcm
          simp only [Zc] at hrun
          split at hrun
          · rename_i a1 h1 hb
            intro r m ds top g w A Q htop hr hA hg hQ
            have hgr := Zae (E := E) hcn n cy a1 h1
            rw [hrun] at hgr
            refine wpIn_seq (ihn x cx a h .normal a1 h1 hx hcm.1 hda hb r m ds top g w A _ (Nat.le_trans (show h1.next ≤ h'.next from Grow.next hgr) htop) hr hA hg fun w' g' A' hE' hR' hA' hd1 => ?_)
            exact ihn y cy a1 h1 e a' h' hy hcm.2 hd1 hrun r m ds top g' w' A' Q htop hR' hA' (hg.mono hE'.le) fun w'' g'' A'' hE'' hR'' hA'' hd2 => hQ w'' g'' A'' (Ext.trans hr hR' hE' hE'') hR'' hA'' hd2
          · rename_i hne
            intro r m ds top g w A Q htop hr hA hg hQ
            refine wpIn_seq (ihn x cx a h e a' h' hx hcm.1 hda hrun r m ds top g w A _ htop hr hA hg fun w' g' A' hE' hR' hA' hd1 => ?_)
            have := hQ w' g' A' hE' hR' hA' hd1
            cases e with
            | normal => exact absurd hrun (hne _ _)
            | exit id => exact this
            | ret => exact this
        · cases hc
      | cond k x y =>
        simp only [ZJ] at hc
        split at hc
        · rename_i ck cx cy hk hx hy
          cases hc
          simp only [Zhd,Bool.and_eq_true] at hcm
          simp only [Zc] at hrun
          split at hrun
          · rename_i b hb
            intro r m ds top g w A Q htop hr hA hg hQ
            have h1 := hA.orel hg k ck hk
            rw [hb] at h1
            have hkv : (Zcr A ds).eval k = .bool b := by
              rw [Zqr]
              generalize hv : A.eval k = v at h1
              cases h1; rfl
            refine wpIn_cond hkv ?_
            cases b with
            | true => exact ihn x cx a h e a' h' hx hcm.1 hda hrun r m ds top g w A Q htop hr hA hg hQ
            | false => exact ihn y cy a h e a' h' hy hcm.2 hda hrun r m ds top g w A Q htop hr hA hg hQ
          · cases hrun
        · cases hc
      | block id x =>
        simp only [ZJ] at hc
        obtain ⟨cx,hx,rfl⟩ := map_some hc
        simp only [Zc] at hrun
        intro r m ds top g w A Q htop hr hA hg hQ
        refine wpIn_block ?_
        split at hrun
        · rename_i k a1 h1 hb
          cases hq : Nat.beq k id with
          | true =>
            rw [hq] at hrun
            cases hrun
            refine ihn x cx a h (.exit k) a' h' hx hcm hda hb r m ds top g w A _ htop hr hA hg fun w' g' A' hE' hR' hA' hd1 => ?_
            have := Nat.eq_of_beq_eq_true hq
            show if k = id then _ else _
            rw [if_pos this]; exact hQ w' g' A' hE' hR' hA' hd1
          | false =>
            rw [hq] at hrun
            cases hrun
            refine ihn x cx a h (.exit k) a' h' hx hcm hda hb r m ds top g w A _ htop hr hA hg fun w' g' A' hE' hR' hA' hd1 => ?_
            have hne : k ≠ id := fun e0 => by subst e0; simp at hq
            show if k = id then _ else _
            rw [if_neg hne]; exact hQ w' g' A' hE' hR' hA' hd1
        · rename_i hne
          refine ihn x cx a h e a' h' hx hcm hda hrun r m ds top g w A _ htop hr hA hg fun w' g' A' hE' hR' hA' hd1 => ?_
          have := hQ w' g' A' hE' hR' hA' hd1
          cases e with
          | normal => exact this
          | exit k => exact absurd hrun (hne _ _ _)
          | ret => exact this
      | loop x =>
        simp only [ZJ] at hc
        obtain ⟨cx,hx,rfl⟩ := map_some hc
        intro r m ds top g w A Q htop hr hA hg hQ
        exact wpIn_loop_rounds (n + 1) (Zw5 hcn n (fun k hk a h e a' h' hd hh => ih k (by omega) x cx a h e a' h' hx hcm hd hh) (n + 1) (Nat.le_refl _) a h e a' h' hda hrun r m ds top g w A Q htop hr hA hg hQ)
      | rangeFunc f ps assign body =>
        exfalso
        simp only [ZJ] at hc
        repeat' (first | (cases hc; done) | split at hc)
      | exit id =>
        simp [ZJ] at hc; subst hc
        simp only [Zc] at hrun; cases hrun
        exact fun r m ds top g w A Q htop hr hA hg hQ => wpIn_exit (hQ w g A (.refl g _ w) hr hA hda)
      | scope x => simp [ZJ] at hc
      | goto l => simp [ZJ] at hc
      | ret =>
        simp [ZJ] at hc; subst hc
        simp only [Zc] at hrun; cases hrun
        exact fun r m ds top g w A Q htop hr hA hg hQ => wpIn_ret (hQ w g A (.refl g _ w) hr hA hda)
      | refuse why =>
        simp [ZJ] at hc; subst hc
        simp only [Zc] at hrun; cases hrun
end
end
end Go.Abs
namespace Go.Abs
noncomputable section
open Go.RowKit
theorem Zrl (o : Obj) : Zpk o = o.isCells := by cases o <;> rfl
section
variable {P : Program} {top : Nat} {glob : Nat → Option (List D)}
theorem R.grown {g : G} {h : H} {W W' : World} {row : Option Nat} (hr : R P top g h W) (hg : W.grownBy W' row) {B : Nat} (hrow : ∀ r,row = some r → B ≤ r ∧ ∃ o : Obj,W.heap[r]? = some o ∧ o.isCells = false)
    (hm : ∀ j es b,h.mem.get j = some (.map es) → g.blk j = some b → b < B) : R P top g h W' := by
  have keep : ∀ (b : Nat) (ob : Obj),W.heap[b]? = some ob → row ≠ some b → W'.heap[b]? = some ob := fun b ob hb hne => by
    rw [hg.block b (Array.getElem?_eq_some_iff.1 hb).1 (Ne.symm hne)]; exact hb
  have ncell : ∀ (b : Nat) (c : Array Value) (t : TypeId) (f : Nat × Nat),W.heap[b]? = some (.cells c t f) → row ≠ some b := fun b c t f hb e => by
    obtain ⟨_,o,h1,h2⟩ := hrow b e
    rw [hb] at h1; cases h1; cases h2
  refine ⟨fun l o ho hn => ?_,fun id n e hi => ?_,fun b o d hd => ?_,hr.blkown,hr.slown,hr.name,hr.dom,hr.le,fun b hb => hr.block b (Nat.le_trans hg.size hb),hr.pos,hr.slblk,fun b l hb ob hob => ?_⟩
  · obtain ⟨b,ob,h1,h2,h3⟩ := hr.obj l o ho hn
    refine ⟨b,ob,h1,keep b ob h2 fun e => ?_,h3⟩
    cases h3 with
    | cells _ => exact ncell _ _ _ _ h2 e
    | map _ => exact absurd (hm _ _ _ ho h1) (by have := (hrow b e).1; omega)
  · obtain ⟨b,cap,xs,h1,h2,h3,h4⟩ := hr.tip id n e hi
    refine ⟨b,cap,xs,h1,h2.kept hg (.inr fun eq => ?_),h3,h4⟩
    simp [Value.ownBlock] at eq
    rcases h2.2 with ⟨q,_⟩ | ⟨g0,cap0,cur,q,q1,q2,q3⟩
    · cases q
    · cases q; exact ncell _ _ _ _ q2 eq.symm
  · obtain ⟨v,hv,hd'⟩ := hr.imm b o d hd
    exact ⟨v,cell_kept hv hg (fun r e => (hrow r e).2),hd'⟩
  · by_cases e : row = some b
    · obtain ⟨_,o,h1,h2⟩ := hrow b e
      rcases hr.ownk b l hb o h1 with h3 | h3
      · rw [Zrl,h2] at h3; cases h3
      · exact .inr h3
    · have hlt : b < W.heap.size := Nat.lt_of_not_le fun hq => by rw [hr.block b hq] at hb; cases hb
      rw [hg.block b hlt (fun q => e q.symm)] at hob
      exact hr.ownk b l hb ob hob
theorem Ext.grown {g g' : G} {h h' : H} {w W W' : World} {row : Option Nat} (he : Ext g h w g' h' W) (hg : W.grownBy W' row) (hrow : ∀ r,row = some r → w.heap.size ≤ r) : Ext g h w g' h' W' :=
  ⟨he.le,he.own,he.ownold,hg.os.trans he.os,hg.tape.trans he.tape,hg.output.trans he.output,Nat.le_trans he.size hg.size,fun b hb hl => by
    rw [hg.block b (Nat.lt_of_lt_of_le hb he.size) (fun e => by have := hrow b e.symm; omega)]; exact he.fr b hb hl,he.dom,he.next,he.names,he.immfr,he.slfr⟩
theorem Ext.keeps {g g' : G} {h h' : H} {W W' : World} (hr : R P top g h W) (he : Ext g h W g' h' W') {B : Nat} (hm : ∀ j es b,h.mem.get j = some (.map es) → g.blk j = some b → b < B) : KeepsFrom B W W' where
  size := he.size
  same := fun k o hB ho hc => by
    have hlt := (Array.getElem?_eq_some_iff.1 ho).1
    rw [he.fr k hlt fun l hl => ?_]
    · exact ho
    · cases hg : h.mem.get l with
      | none => rfl
      | some q =>
        exfalso
        rcases hr.ownk k l hl o ho with h1 | h1
        · rw [Zrl,hc] at h1; cases h1
        · by_cases ht : ∃ n e,q = .tip n e
          · obtain ⟨n,e,rfl⟩ := ht
            obtain ⟨b,cap,xs,h2,_⟩ := hr.tip l n e hg
            rw [hr.slblk l n _ h2] at h1; cases h1
          · obtain ⟨b,ob,h2,h3,h4⟩ := hr.obj l q hg (fun n e he => ht ⟨n,e,he⟩)
            rw [h1] at h2
            cases h2
            rw [ho] at h3
            cases h3
            cases h4 with
            | cells _ => cases hc
            | map _ => exact absurd (hm _ _ _ hg h1) (by omega)
def Zjx : Nat → List Nat
  | 0 => []
  | n + 1 => n :: Zjx n
abbrev Elt (len : Nat) := { p : Nat × Bool // p.1 < len }
def Zco (len : Nat) (x : Elt len) : Array Value := #[.int .i64 (x.1.1 : Int),.bool x.1.2]
structure Hd (rb rl off len cap : Nat) (W : World) : Prop where
  hdr : W.cell? ⟨rb,0,none⟩ = some (.slice (some ⟨rl,off,none⟩) len cap)
  cells : ∀ j,j < len → ∃ v,W.cell? ⟨rl,off + j,none⟩ = some (.bool v)
theorem Hd.grown {rb rl off len cap : Nat} {W W' : World} {row : Option Nat} (h : Hd rb rl off len cap W) (hg : W.grownBy W' row) (hrow : ∀ r,row = some r → ∃ o : Obj,W.heap[r]? = some o ∧ o.isCells = false) : Hd rb rl off len cap W' :=
  ⟨cell_kept h.hdr hg hrow,fun j hj => by obtain ⟨v,hv⟩ := h.cells j hj; exact ⟨v,cell_kept hv hg hrow⟩⟩
def Zzx (P : Program) (gf : Nat) : Prop := ∀ (rb rl off len cap : Nat) (w : World),len ≤ 1000000 → Hd rb rl off len cap w →
  SeqStopsK Fence.wide 2 P gf #[.pointer (some ⟨rb,0,none⟩)] (Zco len) (fun A B => Hd rb rl off len cap A → Hd rb rl off len cap B) (fun ys => ys.map (·.1.1) = Zjx len) (fun _ => True) len w
theorem Z50 {N : Nat} {E : Env} (hE : E.P = P) (hmix : P.follows .mixedOrders = true) {gf : Nat} (hseq : Zzx P gf) (heg : ∀ args w,(callFunc gf args).run P w = .ok (.enter gf args) w)
    {f : Operand} {px py k : Tmp} (hpx : px < N) (hpy : py < N) (hk : k < N) {assign body : Code} (hassign : ∀ (l m : Nat) (A : Act) (W : World) (K : Act → World → Prop),K (A.put (some k) (A.eval (.tmp px))) W → assign.wpIn (Ztj (some l)) m P (Exit.then K (fun _ _ _ => False)) A W)
    (hne : px ≠ py) {cb : CC} (hcb : ZJ P glob N none body = some cb) (hcm : Zhd cb = true)
    {a : AAct} (hda : a.defers = []) {h : H} {b0 l0 off len cap : Nat} (hlen : len ≤ 1000000) (St : List Nat → H → Prop)
    (hround : ∀ pre i v hh,i < len → pre.length < len → St pre hh → ∃ call n a' hh',WE P call glob ∧ ZX call ∧ Zc E call n cb (((a.put (some px) (.int .i64 (.ofNat i))).put (some py) (.v (.bool v))).put (some k) (.int .i64 (.ofNat i))) hh = .out .normal a' hh' ∧ St (pre ++ [i]) hh')
    (hhd : ∀ pre hh,St pre hh → (∃ ty,hh.mem.get b0 = some (.cells ty [.row l0 off len cap])) ∧ ∃ ty bs,hh.mem.get l0 = some (.cells ty bs) ∧ ∀ j,j < len → ∃ v,bs[off + j]? = some (.v (.bool v)))
    (hmaps : ∀ pre hh,St pre hh → ∀ j es,hh.mem.get j = some (.map es) → ∃ es',h.mem.get j = some (.map es'))
    (h0 : St [] h) {g : G} {w : World} {A : Act} {Q : Exit → Act → World → Prop} (htop : ∀ pre hh,pre.length ≤ len → St pre hh → hh.next ≤ top) (hr : R P top g h w) (hA : ARel g a A N) (hg : XB g glob)
    (hf : VRel g (.func (.func gf) [] [.ptr b0 0]) (A.eval f))
    (hQ : ∀ D g' hh W,St (Zjx len) hh → Ext g h w g' hh W → R P top g' hh W → w.heap.size ≤ D → W.heap[D]? = some (.deferred (some [])) → Q .normal { A with defers := [{ target := .collected D,args := #[] }] } W) :
    (Code.rangeFunc f #[px,py] assign body).wp P Q A w := by
  have hAd : A.defers = [] := by have := hA.dfr; rw [hda] at this; exact this.nil
  -- what f is
  obtain ⟨rb,hb0,hfv⟩ : ∃ rb,g.blk b0 = some rb ∧ A.eval f = .func (.func gf) #[] #[.pointer (some ⟨rb,0,none⟩)] := by
    generalize A.eval f = v at hf
    cases hf with
    | func h1 h2 h3 h4 =>
      rename_i cs us
      have e1 : cs = #[] := by simpa using h1.symm
      obtain ⟨u,rfl⟩ : ∃ u,us = #[u] := by
        have : us.size = 1 := h3.symm
        exact ⟨us[0],by apply Array.ext; simp [this]; intro i h5 h6; simp at h6; subst h6; rfl⟩
      have h5 := h4 0 _ u rfl rfl
      cases h5 with
      | ptr h6 => exact ⟨_,h6,by rw [e1]⟩
  obtain ⟨rl,hl0⟩ : ∃ rl,g.blk l0 = some rl := by
    obtain ⟨_,ty,bs,h1,_⟩ := hhd [] h h0
    obtain ⟨b,ob,h2,_⟩ := hr.obj l0 _ h1 (fun n e he => by cases he)
    exact ⟨b,h2⟩
  have hd : ∀ pre hh g' W,St pre hh → g.Le g' → R P top g' hh W → Hd rb rl off len cap W := fun pre hh g' W hs hle hr' => by
    obtain ⟨⟨ty,h1⟩,ty2,bs,h2,h3⟩ := hhd pre hh hs
    constructor
    · obtain ⟨b,ob,e1,e2,e3⟩ := hr'.obj b0 _ h1 (fun n e he => by cases he)
      rw [hle.blk _ _ hb0] at e1
      cases e1
      cases e3 with
      | cells hv =>
        rename_i c
        have hsz := hv.1
        have h4 : ∃ v,c.toList = [v] := by
          match hc : c.toList,hsz with
          | [v],_ => exact ⟨v,rfl⟩
        obtain ⟨v,h4⟩ := h4
        have h5 := hv.2 0 _ v rfl (by rw [h4]; rfl)
        cases h5 with
        | row h6 =>
          rw [hle.blk _ _ hl0] at h6
          cases h6
          have : c = #[.slice (some ⟨rl,off,none⟩) len cap] := by
            apply Array.ext'; simpa using h4
          subst this
          simp [World.cell?,e2]
    · intro j hj
      obtain ⟨v,hv⟩ := h3 j hj
      obtain ⟨b,ob,e1,e2,e3⟩ := hr'.obj l0 _ h2 (fun n e he => by cases he)
      rw [hle.blk _ _ hl0] at e1
      cases e1
      cases e3 with
      | cells hvs =>
        rename_i c
        have hlt : off + j < c.toList.length := by rw [← hvs.1]; exact (List.getElem?_eq_some_iff.1 hv).1
        have h5 := hvs.2 (off + j) _ _ hv (List.getElem?_eq_getElem hlt)
        generalize hx : c.toList[off + j] = x at h5
        cases h5
        refine ⟨v, ?_⟩
        have : c[off + j]? = some (.bool v) := by
          rw [← Array.getElem?_toList,List.getElem?_eq_getElem hlt,hx]
        simp [World.cell?,e2,this]
  have mapsB : ∀ pre hh g',St pre hh → g.Le g' → ∀ j es b,hh.mem.get j = some (.map es) → g'.blk j = some b → b < w.heap.size := fun pre hh g' hs hle j es b hj hb => by
    obtain ⟨es',h1⟩ := hmaps pre hh hs j es hj
    obtain ⟨b',ob,h2,h3,_⟩ := hr.obj j _ h1 (fun n e he => by cases he)
    rw [hle.blk _ _ h2] at hb
    cases hb
    exact (Array.getElem?_eq_some_iff.1 h3).1
  have hHd := hd [] h g w h0 (.refl g) hr
  refine (wpIn_wide (n := 3)).1 ?_
  refine wpIn_rangeFunc_ownH (F := Fence.wide) (n := 3) rfl (by decide) (gf := gf) (lb := #[.pointer (some ⟨rb,0,none⟩)]) hfv trivial heg (hseq rb rl off len cap w hlen hHd) (fun h1 h2 h3 => h2 (h1 h3))
    (fun W l o o' hl ho hc _ hH => hH.grown (grownBy_putObj' W l o') (fun r e => by cases e; exact ⟨o,ho,hc⟩)) (Below.refl _ _) (fun _ => rfl)
    (fun pre W => pre.length ≤ len ∧ ∃ hh g',St (pre.map (·.1.1)) hh ∧ Ext g h w g' hh W ∧ R P top g' hh W) (fun _ _ _ => False) ?hI (fun c s W W' row hs _ _ => hs) ⟨Nat.zero_le _,h,g,h0,.refl g _ w,hr⟩
    (fun x a' W => a' = (((A.put (some px) (.int .i64 (x.1.1 : Int))).put (some py) (.bool x.1.2)).put (some k) (.int .i64 (x.1.1 : Int)))) (fun x a' s W W' row hs _ _ => hs) ?hass ?hbody ?hdone (fun D c pre W _ _ hs _ => hs.elim)
  case hI =>
    intro pre W W' row ⟨hl,hh,g',hs,he,hr'⟩ hgr hrow
    exact ⟨hl,hh,g',hs,he.grown hgr (fun r e => (hrow r e).1),hr'.grown hgr hrow (mapsB _ hh g' hs he.le)⟩
  case hass =>
    intro l pre x W K hi hK
    refine hassign l _ _ W K (hK _ W (KeepsFrom.refl _ _) (fun hH => hH) hi ?_)
    have hsz := hA.size
    have e1 : ((#[px,py] : Array Tmp).zip (Zco len x)).foldl (fun t (p,v) => t.setIfInBounds p v) A.tmps = ((A.put (some px) (.int .i64 (x.1.1 : Int))).put (some py) (.bool x.1.2)).tmps := by simp [Zco,Act.put]
    have e2 : ((A.put (some px) (.int .i64 (x.1.1 : Int))).put (some py) (.bool x.1.2)).eval (.tmp px) = .int .i64 (x.1.1 : Int) := by
      have hlt : px < A.tmps.size := Nat.lt_of_lt_of_le hpx hsz
      simp [Act.eval,Act.put,Array.getD_eq_getD_getElem?,Array.getElem?_setIfInBounds,hne,Ne.symm hne,hlt]
    rw [e1]
    have e3 : ({ tmps := ((A.put (some px) (.int .i64 (x.1.1 : Int))).put (some py) (.bool x.1.2)).tmps,defers := [] } : Act) = (A.put (some px) (.int .i64 (x.1.1 : Int))).put (some py) (.bool x.1.2) := by
      simp only [Act.put,hAd]
    rw [e3,e2]
  case hbody =>
    intro l pre x a' W hlB _ ⟨hpl,hh,g',hs,he,hr'⟩ hax hlt
    subst hax
    obtain ⟨call,n,a',hh',hcall,hcn,hrun,hs'⟩ := hround _ x.1.1 x.1.2 hh x.2 (by simpa using hlt) hs
    have hA2 : ARel g' (((a.put (some px) (.int .i64 (.ofNat x.1.1))).put (some py) (.v (.bool x.1.2))).put (some k) (.int .i64 (.ofNat x.1.1))) (((A.put (some px) (.int .i64 (x.1.1 : Int))).put (some py) (.bool x.1.2)).put (some k) (.int .i64 (x.1.1 : Int))) N :=
      (((hA.mono he.le).put (by show Nat.blt px N = true; rw [Nat.blt_eq]; exact hpx) (.int _ _)).put (by show Nat.blt py N = true; rw [Nat.blt_eq]; exact hpy) (.v _)).put (by show Nat.blt k N = true; rw [Nat.blt_eq]; exact hk) (.int _ _)
    have hgo := Zpj hcall hcn hE hmix n body cb _ hh .normal a' hh' hcb hcm (by simpa [AAct.put] using hda) hrun (some l) 1 [] top g' W _ (ownPostG w.heap.size (fun A B => Hd rb rl off len cap A → Hd rb rl off len cap B) (fun pre W => pre.length ≤ len ∧ ∃ hh g',St (pre.map (·.1.1)) hh ∧ Ext g h w g' hh W ∧ R P top g' hh W) (fun _ _ _ => False) (pre ++ [x]) W) (htop _ hh' (by simp; omega) hs') hr' hA2 (hg.mono he.le) (fun W' g'' A' hE' hR' hA' _ => ?_)
    · have e : Zcr (((A.put (some px) (.int .i64 (x.1.1 : Int))).put (some py) (.bool x.1.2)).put (some k) (.int .i64 (x.1.1 : Int))) [] = (((A.put (some px) (.int .i64 (x.1.1 : Int))).put (some py) (.bool x.1.2)).put (some k) (.int .i64 (x.1.1 : Int))) := by
        simp only [Zcr,Act.put,hAd]
      rw [e] at hgo
      exact hgo
    · have hE2 := Ext.trans hr hr' he hE'
      refine ⟨Ext.keeps hr' hE' (mapsB _ hh g' hs he.le),fun _ => hd _ hh' g'' W' hs' hE2.le hR',by simp; omega,hh',g'',by simpa using hs',hE2,hR'⟩
  case hdone =>
    intro D xs W hD hS ⟨_,hh,g',hs,he,hr'⟩ hK
    rw [hS] at hs
    rw [hAd]
    exact hQ D g' hh W hs he hr' hD hK
end
end
end Go.Abs
