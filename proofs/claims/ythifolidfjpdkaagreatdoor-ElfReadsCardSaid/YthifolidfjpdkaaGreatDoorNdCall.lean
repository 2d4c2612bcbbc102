/- Calls, in a world and on plain data. -/
import Derived.Test.YthifolidfjpdkaaGreatDoorNdDrawB
import Derived.Recover
import Derived.ControlIn
import Derived.OrdersIn
import Derived.LoopNIn
import Derived.RangeFuncCalls
import Derived.TacticsIn
import Derived.RangeFuncNested
import Derived.Below
set_option linter.unusedVariables false
set_option linter.unusedSimpArgs false
namespace Go.Abs
noncomputable section
section
variable {P : Program} {top : Nat} {glob : Nat → Option (List D)} {E : Env}
theorem Tr.get_ofListFrom {α : Type} : ∀ (l : List α) (i : Nat) (t : Tr α) (j : Nat), (Tr.ofListFrom i l t).get j = if i ≤ j ∧ j < i + l.length then l[j - i]? else t.get j
  | [], i, t, j => by simp [Tr.ofListFrom]; intro h1 h2; omega
  | x :: xs, i, t, j => by
    simp only [Tr.ofListFrom]
    rw [Tr.get_ofListFrom xs (i + 1), Tr.get_set]
    by_cases h1 : i + 1 ≤ j ∧ j < i + 1 + xs.length
    · rw [if_pos h1, if_pos (by simp; omega)]
      have : j - i = (j - (i + 1)) + 1 := by omega
      rw [this]; simp
    · rw [if_neg h1]
      by_cases h2 : j = i
      · subst h2; rw [if_pos rfl, if_pos (by simp)]; simp
      · rw [if_neg h2, if_neg (by simp; omega)]
theorem Tr.get_ofList {α : Type} (l : List α) (j : Nat) : (Tr.ofList l).get j = l[j]? := by
  unfold Tr.ofList
  rw [Tr.get_ofListFrom]
  by_cases h : j < l.length
  · rw [if_pos (by omega)]; simp
  · rw [if_neg (by omega), List.getElem?_eq_none (by omega)]; rfl
theorem Zn0 {g : G} {ds : List D} {args : Array Value} (h : Zx g ds args.toList) (N : Nat) : ARel g (start ds none) { tmps := args ++ Array.replicate (N - args.size) undef, defers := [] } N := by
  refine ⟨fun t => ?_, by simp; omega, trivial⟩
  simp only [AAct.eval, start, Tr.get_ofList]
  by_cases ht : t < args.size
  · have hl : t < ds.length := by rw [h.1]; simpa using ht
    rw [List.getElem?_eq_getElem hl]
    have h2 := h.2 t ds[t] args[t] (List.getElem?_eq_getElem hl) (by simp [ht])
    simpa [Array.getElem?_append, ht] using h2
  · have hl : ¬ t < ds.length := by rw [h.1]; simpa using ht
    rw [List.getElem?_eq_none (by omega)]
    have : (args ++ Array.replicate (N - args.size) undef).getD t undef = undef := by
      simp only [Array.getD_eq_getD_getElem?, Array.getElem?_append, ht, if_false, Array.getElem?_replicate]
      split <;> rfl
    rw [this]; exact .undef g
def Zlx (tmps : Array Value) : ResultVar → Sem Value
  | .tmp t => pure (tmps.getD t undef)
  | .cell x t => do loadVar t (← asAddr (tmps.getD x undef))
theorem Ztw (fn : Func) (tmps : Array Value) : results fn tmps = (fn.results.mapM (Zlx tmps) >>= fun vs => pure (if h : vs.size = 1 then vs[0] else Value.tuple vs)) := by
  unfold results
  congr 1
theorem Zs1 {g : G} {h : H} {w : World} {a : AAct} {A : Act} {N : Nat} (hr : R P top g h w) (hA : ARel g a A N) : ∀ {rs : List ResultVar} {cs : List CRes} {ds : List D}, Zup P rs = some cs → YK a h cs = some ds →
    ∃ vs, (rs.mapM (Zlx A.tmps)).run P w = .ok vs w ∧ Zx g ds vs
  | [], cs, ds, hc, hd => by
    simp [Zup] at hc; subst hc
    simp [YK] at hd; subst hd
    exact ⟨[], by simp, .nil g⟩
  | r :: rs, cs, ds, hc, hd => by
    simp only [Zup] at hc
    split at hc
    · rename_i c l h1 h2
      cases hc
      simp only [YK] at hd
      split at hd
      · rename_i d ds' h3 h4
        cases hd
        obtain ⟨vs, hv1, hv2⟩ := Zs1 hr hA h2 h4
        cases r with
        | tmp t =>
          simp only at h1
          cases h1
          simp only at h3
          cases h3
          refine ⟨A.tmps.getD t undef :: vs, ?_, .cons (hA.tmp t) hv2⟩
          simp only [List.mapM_cons, Zlx, Sem.run_bind, Sem.run_pure, Result.andThen_ok, hv1]
        | cell x t =>
          simp only at h1
          have hx := hA.tmp x
          split at h1
          · rename_i n ha hn
            cases h1
            simp only at h3
            split at h3
            · rename_i cs' hc'
              cases h3
              obtain ⟨b, off, us, hv, hvs, hlen, hcell⟩ := XW hr hc' hx
              obtain ⟨i, hi, his, hic, hsz⟩ := Yt hn
              have hag := Zbo ha
              have hl : (loadCells ⟨b, off, none⟩ us.length).run P w = .ok us.toArray w := run_loadCells_list (P := P) w ⟨b, off, none⟩ us (fun j v hj => by rw [YC]; exact hcell j v hj)
              rw [hlen] at hl
              refine ⟨.agg us.toArray :: vs, ?_, .cons (.agg' (by simpa using hvs)) hv2⟩
              have hld : (loadVar t ⟨b, off, none⟩).run P w = .ok (.agg us.toArray) w := by simp [loadVar, hag, hsz, hl]
              simp only [List.mapM_cons, Zlx, Sem.run_bind, Sem.run_pure, Result.andThen_ok, hv, asAddr, hld, hv1]
            · cases h3
          · rename_i n ha hn
            cases h1
            simp only at h3
            split at h3
            · rename_i c' hc'
              cases h3
              obtain ⟨b, off, us, hv, hvs, hlen, hcell⟩ := XW hr hc' hx
              have hag := Zbo ha
              obtain ⟨u, hu0, hur⟩ := hvs.some (i := 0) rfl
              have h0 : w.cell? ⟨b, off, none⟩ = some u := hcell 0 u hu0
              refine ⟨u :: vs, ?_, .cons hur hv2⟩
              have hld : (loadVar t ⟨b, off, none⟩).run P w = .ok u w := by simp [loadVar, hag, load, Sem.run, h0]
              simp only [List.mapM_cons, Zlx, Sem.run_bind, Sem.run_pure, Result.andThen_ok, hv, asAddr, hld, hv1]
            · cases h3
          · cases h1
      · cases hd
    · cases hc
theorem Zkc {g : G} {h : H} {w : World} {a : AAct} {A : Act} {N : Nat} {fn : Func} {cf : CFn} {d : D} {h' : H} (hr : R P top g h w) (hA : ARel g a A N) (hc : Zup P fn.results.toList = some cf.results) (hf : Uv cf a h = .ok d h') :
    h' = h ∧ ∃ v, (results fn A.tmps).run P w = .ok v w ∧ VRel g d v := by
  unfold Uv at hf
  split at hf
  · rename_i ds hd
    cases hf
    obtain ⟨vs, h1, h2⟩ := Zs1 hr hA hc hd
    refine ⟨rfl, ?_⟩
    have hvl : ds.length = vs.length := h2.1
    have hrun : (results fn A.tmps).run P w = .ok (if hh : vs.toArray.size = 1 then vs.toArray[0] else Value.tuple vs.toArray) w := by
      rw [Ztw, Sem.run_bind, Array.mapM_eq_mapM_toList]
      simp [h1]
    refine ⟨_, hrun, ?_⟩
    match ds, vs, h2, hvl with
    | [], [], h2, _ => exact .tup' h2
    | [d0], [v0], h2, _ => exact h2.head
    | d0 :: d1 :: ds, v0 :: v1 :: vs, h2, _ =>
      have : (v0 :: v1 :: vs).toArray.size ≠ 1 := by simp
      rw [dif_neg this]
      exact .tup' h2
  · cases hf
theorem Z1g {cf : CFn} {a : AAct} {h h' : H} {d : D} (hf : Uv cf a h = .ok d h') : h' = h := by
  unfold Uv at hf
  split at hf
  · cases hf; rfl
  · cases hf
theorem Zwf {cf : CFn} {a : AAct} {h h' : H} {p : Bool} {d : D} (hf : Uv cf a h = .mk p d h') : p = false := by
  cases p with
  | false => rfl
  | true =>
    unfold Uv at hf
    split at hf <;> cases hf
def ZS (P : Program) (f : Nat) (lf : List D → H → O D) (glob : Nat → Option (List D)) : Prop := ∀ ds h p d h', lf ds h = .mk p d h' → ∀ top g w args, h'.next ≤ top → R P top g h w → WI g glob → Zx g ds args.toList →
  ((callFunc f args).run P w = .ok (.enter f args) w ∧ Calls P f args w fun e w' => ∃ v, e = endB p v ∧ ZH P top g h w d h' v w') ∨
  (p = false ∧ ∃ v w', (callFunc f args).run P w = .ok (.value v) w' ∧ ZH P top g h w d h' v w')
structure Told (P : Program) (glob : Nat → Option (List D)) (E : Env) : Prop where
  prog : E.P = P
  orders : P.follows .mixedOrders = true
  fns : ∀ f cf, E.fns f = some cf → ∃ fn back, P.funcs[f]? = some fn ∧ (fn.name == "runtime.NumGoroutine") = false ∧ cfn P glob back fn = some cf ∧ Zqq P glob fn.ntmps E back
  dfrs : ∀ f p, E.dfrs f = some p → ∃ fn, P.funcs[f]? = some fn ∧ (fn.name == "runtime.NumGoroutine") = false ∧ cdfr P glob fn = some p
  lib : ∀ f lf, E.lib f = some lf → ZS P f lf glob
  libgrow : ∀ f lf, E.lib f = some lf → ∀ ds h, Xc h (lf ds h)
theorem Z00 {f : Nat} {fn : Func} {c : Code} {args : Array Value} {w : World} (hfn : P.funcs[f]? = some fn) (hname : (fn.name == "runtime.NumGoroutine") = false) (hbody : fn.body = some c) : (callFunc f args).run P w = .ok (.enter f args) w := by
  unfold callFunc
  simp only [program, Sem.run_bind, Sem.run, hfn, Result.andThen_ok, hname, hbody]
  simp
theorem Zx4 {fn : Func} {p : Option Nat × CC} (h : cdfr P glob fn = some p) : ∃ id o rest c, fn.body = some (.seq (.region id #[o] false) rest) ∧ o.op = .call c ∧ o.guard = none ∧ c.callee = .builtin .recover ∧ c.args = #[] ∧ Zfr fn.ntmps o.dst = true ∧ fn.results = #[] ∧
    p.1 = o.dst ∧ XX P glob fn.ntmps none rest = some p.2 := by
  unfold cdfr at h
  split at h
  · rename_i id ops d rest hb
    split at h
    · rename_i o ho
      split at h
      · rename_i c hop hgd
        split at h
        · rename_i hcal harg
          cases hcd : (!d && Zfr fn.ntmps o.dst && fn.results.isEmpty) with
          | false => rw [hcd] at h; cases h
          | true =>
            rw [hcd] at h
            simp only [Bool.and_eq_true, Bool.not_eq_true'] at hcd
            obtain ⟨cc, hcc, rfl⟩ := map_some h
            have hops : ops = #[o] := by
              have := congrArg List.toArray ho
              simpa using this
            refine ⟨id, o, rest, c, ?_, hop, hgd, hcal, by simpa using harg, hcd.1.2, by simpa using hcd.2, rfl, hcc⟩
            rw [hb, hops, hcd.1.1]
        · cases h
      · cases h
    · cases h
  · cases h
def Zu1 (g : G) (r : Option D) (u : FrameMode) : Prop :=
  match r with
  | none => u = .returning
  | some d => ∃ v, u = .panicking [{ v, recovered := false }] ∧ VRel g d v
theorem Zc1.one {g : G} {ds : List D} {df : D} {vs : List Deferred} (hds : ds = [df]) (h : Zc1 g ds vs) : ∃ (f : Nat) (x y : List D) (first cap : Array Value), df = .func (.func f) x y ∧ vs = [{ target := .fn (.func f) cap, args := first }] ∧ Zx g x first.toList ∧ Zx g y cap.toList := by
  unfold Zc1 at h
  split at h
  · cases hds
  · rename_i f x y r d rs
    cases hds
    obtain ⟨⟨first, cap, rfl, h1, h2⟩, h3⟩ := h
    cases rs with
    | nil => exact ⟨f, x, y, first, cap, rfl, rfl, h1, h2⟩
    | cons _ _ => exact h3.elim
  · exact h.elim
theorem Zxz {call : Call} (ht : Told P glob E) (hcall : Ux P call glob) (hcn : YB call) {n : Nat} {df : D} {r : Option D} {h h2 : H} (hd : Zds E call n df r h = some h2) {dv : Deferred} {ds : List D} {g : G} {w : World} {u : FrameMode}
    (hr : R P top g h w) (htop : h2.next ≤ top) (hg : WI g glob) (hdf : Zc1 g [df] [dv]) (hu : Zu1 g r u) {K : World → Prop} (hK : ∀ w' g', Ext g h w g' h2 w' → R P top g' h2 w' → K w') :
    u ≠ .run ∧ ∃ fv cap f args, dv.target = .fn fv cap ∧ (invoke dv.target dv.args).run P w = .ok (.enter f args) w ∧
      CallsD P f args u w fun
        | .returned _, u', w' => settle u' = .returning ∧ K w'
        | _, _, _ => False := by
  refine ⟨?_, ?_⟩
  · cases r with
    | none => have : u = .returning := hu
              rw [this]; simp
    | some d => obtain ⟨v, rfl, _⟩ := hu; simp
  obtain ⟨gf, x, y, first, cap, rfl, hvs, hx, hy⟩ := Zc1.one rfl hdf
  cases hvs
  · unfold Zds at hd
    simp only at hd
    split at hd
    · rename_i p hp
      obtain ⟨fn, hfn, hname, hcd⟩ := ht.dfrs gf p hp
      obtain ⟨id, o, rest, c, hbody, hop, hgd, hcal, harg, hdst, hres, hp1, hcc⟩ := Zx4 hcd
      split at hd
      · rename_i e b h3 hb
        refine ⟨_, _, gf, first ++ cap, rfl, ?_, ?_⟩
        · have : (invoke (.fn (.func gf) cap) first).run P w = (callFunc gf (first ++ cap)).run P w := rfl
          exact this.trans (Z00 hfn hname hbody)
        · refine callsD_of_wpS hfn hbody fun c₀ cs hc0 => ?_
          have hex : ∀ ρ : Operand → Value, (execOp ρ o).run P w = .ok .recover w := fun ρ => by
            simp [execOp, hop, resolve, hcal, harg, invoke, builtin]
          have hA := Zn0 (g := g) (ds := x ++ y) (args := first ++ cap) (by simpa using hx.append hy) fn.ntmps
          have go : ∀ (v : Value) (u' : FrameMode), VRel g (Zjb r) v → settle u' = .returning →
              rest.wpS P (bodyPostS P fn c₀ cs fun
                | .returned _, u', w' => settle u' = .returning ∧ K w'
                | _, _, _ => False) (Act.put { tmps := (first ++ cap) ++ Array.replicate (fn.ntmps - (first ++ cap).size) undef, defers := [] } p.1 v) ({ c₀ with mode := u' } :: cs) w := by
            intro v u' hv hset
            have hA2 := hA.put hdst hv
            rw [← hp1] at hA2
            have hgo := Zs2 hcall hcn ht.prog (Zsv ht.prog ht.orders) Ziv n rest p.2 _ h (.exit e) b h3 hcc hb
            have fin : e ≠ .exit 0 → ∀ (w' : World) (g' : G) (A' : Act), h3 = h2 → b.defers = [] → Ext g h w g' h3 w' → R P top g' h3 w' → ARel g' b A' fn.ntmps → A'.defers = [] ∧ ∃ u'', ({ c₀ with mode := u' } :: cs) = { c₀ with mode := u'' } :: cs ∧ ∃ v, (results fn A'.tmps).run P w' = .ok v w' ∧ settle u'' = .returning ∧ K w' := by
              intro _ w' g' A' he3 hbd hE' hR' hA'
              subst he3
              refine ⟨?_, u', rfl, .tuple #[], ?_, hset, hK w' g' hE' hR'⟩
              · have := hA'.dfr
                rw [hbd] at this
                cases hAd : A'.defers with
                | nil => rfl
                | cons _ _ => rw [hAd] at this; exact this.elim
              · unfold results
                rw [hres]
                simp
            refine wpS_of_wp (hgo top g w _ _ ?_ hr hA2 hg fun w' g' A' xx hE' hR' hA' hxx => ?_)
            · cases e with
              | exit _ => cases hd
              | normal => simp only at hd; split at hd <;> cases hd; exact htop
              | ret => simp only at hd; split at hd <;> cases hd; exact htop
            · cases hxx
              cases e with
              | exit _ => cases hd
              | normal =>
                simp only at hd
                split at hd
                · rename_i hbd; cases hd; exact fin (by simp) w' g' A' rfl hbd hE' hR' hA'
                · cases hd
              | ret =>
                simp only at hd
                split at hd
                · rename_i hbd; cases hd; exact fin (by simp) w' g' A' rfl hbd hE' hR' hA'
                · cases hd
          refine wpS_seq (wpS_region ?_)
          have hlist : List.range (#[o] : Array Oper).size = [0] := rfl
          rw [hlist]
          simp only [wpOpsS]
          have h0 : (#[o] : Array Oper)[0]? = some o := rfl
          rw [h0]
          simp only
          have hwant : ∀ y, Region.wanted o y = true := fun y => by unfold Region.wanted; rw [hgd]
          rw [if_pos (hwant _), hex]
          simp only
          cases r with
          | none =>
            have hu' : u = .returning := hu
            have hrec : recoverD (c₀ :: cs) = none := by
              unfold recoverD
              simp only [hc0, hu']
            rw [hrec]
            simp only
            have := go .nilIface .returning (.v _) rfl
            rw [hp1] at this
            have hc0' : ({ c₀ with mode := .returning } : Frame) = c₀ := by
              rw [← hu', ← hc0]
            rw [hc0'] at this
            exact this
          | some d =>
            obtain ⟨v, hu', hv⟩ := hu
            have hrec : recoverD (c₀ :: cs) = some (v, { c₀ with mode := .panicking [{ v, recovered := true }] } :: cs) := by
              unfold recoverD
              simp only [hc0, hu']
            rw [hrec]
            simp only
            rw [← hp1]
            exact go v (.panicking [{ v, recovered := true }]) hv rfl
      · cases hd
    · cases hd
def RelBy (r : Option D) (g : G) (a : AAct) (A : Act) (N : Nat) : Prop :=
  match r with
  | none => ARel g a A N
  | some _ => PRel g a A N
theorem Zxh {call : Call} (ht : Told P glob E) (hcall : Ux P call glob) (hcn : YB call) {n : Nat} {fn : Func} {cf : CFn} {r : Option D} {a : AAct} {h h' : H} {p : Bool} {d : D} (hl : Ww E call n cf r a h = .mk p d h') {g : G} {w : World} {A : Act} {N : Nat} {u : FrameMode}
    (hr : R P top g h w) (htop : h'.next ≤ top) (hg : WI g glob) (hA0 : RelBy r g a A N) (hu : Zu1 g r u) (hc : Zup P fn.results.toList = some cf.results) {K : Ending → World → Prop}
    (hK : ∀ v w' g', Ext g h w g' h' w' → R P top g' h' w' → VRel g' d v → K (endB p v) w') : Leaves P fn A.tmps K A.defers u w := by
  unfold Ww at hl
  have hA1 : ARel g a A N ∨ (a.defers = [] ∧ A.defers = []) := by
    cases r with
    | none => exact .inl hA0
    | some d => exact hA0
  split at hl
  · rename_i hd0
    have hAd : A.defers = [] := by
      rcases hA1 with hA | ⟨_, h0⟩
      · have hdf := hA.dfr
        rw [hd0] at hdf
        cases hAd : A.defers with
        | nil => rfl
        | cons _ _ => rw [hAd] at hdf; exact hdf.elim
      · exact h0
    rw [hAd]
    split at hl
    · have hA : ARel g a A N := hA0
      have hpf := Zwf hl
      subst hpf
      obtain ⟨rfl, v, hv, hvr⟩ := Zkc (fn := fn) (cf := cf) hr hA hc hl
      have hu' : u = .returning := hu
      rw [hu']
      exact ⟨v, hv, hK v w g (.refl g _ w) hr hvr⟩
    · rename_i d0
      cases p with
      | false => cases hl
      | true =>
        cases hl
        obtain ⟨v, rfl, hv⟩ := hu
        exact hK v w g (.refl g _ w) hr hv
  · rename_i df hd0
    have hA : ARel g a A N := hA1.resolve_right fun hh => by rw [hd0] at hh; cases hh.1
    have hdf := hA.dfr
    rw [hd0] at hdf
    obtain ⟨_, _, _, _, _, _, hAd, _⟩ := Zc1.one rfl hdf
    rw [hAd] at hdf ⊢
    split at hl
    · rename_i h2 hcd
      have hpf := Zwf hl
      subst hpf
      have hmem := Z1g hl
      subst hmem
      obtain ⟨hrun, fv, cap, f, args, h1, h3, h4⟩ := Zxz (K := fun w' => ∃ v, (results fn A.tmps).run P w' = .ok v w' ∧ K (.returned v) w') (ds := []) ht hcall hcn hcd hr htop hg hdf hu fun w' g' hE' hR' => by
        obtain ⟨_, v, hv, hvr⟩ := Zkc (fn := fn) (cf := cf) hR' (hA.mono hE'.le) hc hl
        exact ⟨v, hv, hK v w' g' hE' hR' hvr⟩
      refine ⟨hrun, fv, cap, f, args, h1, h3, ?_⟩
      intro c₀ cs hc0
      obtain ⟨e, u', w', fr, hR, hs⟩ := h4 c₀ cs hc0
      refine ⟨e, u', w', fr, ?_, hs⟩
      cases e with
      | returned v => obtain ⟨h5, h6⟩ := hR; simp only; rw [h5]; exact h6
      | panicked ch => exact hR.elim
      | outgrown => exact hR.elim
    · cases p <;> cases hl
  · cases p <;> cases hl
theorem Znc (ht : Told P glob E) : ∀ n, Ux P (Zb4 E n) glob := by
  intro n
  induction n with
  | zero => intro f ds h p d h' hrun; simp only [Zb4] at hrun; cases p <;> cases hrun
  | succ n ih =>
    intro f ds h p d h' hrun top g w args htop hr hg hds
    simp only [Zb4] at hrun
    split at hrun
    · rename_i lf hl
      exact ht.lib f lf hl ds h p d h' hrun top g w args htop hr hg hds
    · split at hrun
      · cases p <;> cases hrun
      · rename_i cf hcf
        obtain ⟨fn, back, hfn, hname, hc, hback⟩ := ht.fns f cf hcf
        unfold cfn at hc
        split at hc
        · rename_i c hbody
          split at hc
          · rename_i rs cc hres hcc
            cases hc
            refine .inl ⟨Z00 hfn hname hbody, ?_⟩
            have hcn := Zg3 ht.libgrow n
            have main : ∀ (x : AEnd) (r : Option D) (a1 : AAct) (h1 : H), Zw E (Zb4 E n) n cc (start ds none) h = .mk x a1 h1 → Ww E (Zb4 E n) n ⟨rs, cc⟩ r a1 h1 = .mk p d h' →
                (∀ g' A', x.act g' a1 A' fn.ntmps → RelBy r g' a1 A' fn.ntmps) → (∀ g' xx, x.ends g' xx → (∃ u, Zu1 g' r u ∧ ∀ A' w' K, Leaves P fn A'.tmps K A'.defers u w' → bodyPostD P fn K xx A' w')) →
                Calls P f args w fun e w' => ∃ v, e = endB p v ∧ ZH P top g h w d h' v w' := by
              intro x r a1 h1 hrc hlv hact hx
              have hgo := Zs2 ih hcn ht.prog (Zsv ht.prog ht.orders) hback n c cc (start ds none) h x a1 h1 hcc hrc
              have hgr : Xc h1 (.mk p d h') := by rw [← hlv]; exact Zgk hcn
              refine calls_of_wp_defers hfn hbody (hgo top g w _ _ (Nat.le_trans hgr.mk.next htop) hr (Zn0 hds _) hg fun w' g' A' xx hE' hR' hA' hxx => ?_)
              obtain ⟨u, hu, hb⟩ := hx g' xx hxx
              refine hb A' w' _ (Zxh ht ih hcn hlv hR' htop (WI.mono hE'.le hg) (hact g' A' hA') hu hres fun v w'' g'' hE'' hR'' hV'' => ⟨v, rfl, g'', Ext.trans hr hR' hE' hE'', hR'', hV''⟩)
            split at hrun
            · rename_i e1 a1 h1 hrc
              cases e1 with
              | exit id => cases p <;> cases hrun
              | normal => exact main (.exit .normal) none a1 h1 hrc hrun (fun _ _ h => h) fun g' xx hxx => by cases hxx; exact ⟨_, rfl, fun A' w' K hl => hl⟩
              | ret => exact main (.exit .ret) none a1 h1 hrc hrun (fun _ _ h => h) fun g' xx hxx => by cases hxx; exact ⟨_, rfl, fun A' w' K hl => hl⟩
            · rename_i d0 a1 h1 hrc
              exact main (.panic d0) (some d0) a1 h1 hrc hrun (fun _ _ h => h) fun g' xx hxx => by obtain ⟨v, rfl, hv⟩ := hxx; exact ⟨_, ⟨v, rfl, hv⟩, fun A' w' K hl => hl⟩
            · cases p <;> cases hrun
          · cases hc
        · cases hc
end
end
end Go.Abs
namespace Go.Abs
noncomputable section
section
variable {P : Program} {r : Option Nat} {m : Nat} {ds : List Deferred} {Q : Exit → Act → World → Prop}
end
section
variable {P : Program} {glob : Nat → Option (List D)} {N : Nat} {r : Option Nat} {m : Nat} {ds : List Deferred} {top : Nat}
theorem Zc1.nil {g : G} {vs : List Deferred} (h : Zc1 g [] vs) : vs = [] := by
  cases vs with
  | nil => rfl
  | cons _ _ => exact h.elim
end
section
variable {P : Program} {glob : Nat → Option (List D)} {N : Nat} {E : Env} {call : Call} {ops : Array Oper} {l : List CO} {aT : Nat → AAct} {hT : Nat → H} {rT : Nat → List Rec}
variable {top : Nat} {g0 g : G} {w0 w : World} {aS : AAct} {A : Act} {r : Option Nat} {m : Nat} {ds : List Deferred}
end
section
variable {P : Program} {glob : Nat → Option (List D)} {N : Nat} {E : Env}
end
section
variable {P : Program} {glob : Nat → Option (List D)} {N : Nat} {E : Env}
end
end
end Go.Abs
namespace Go.Abs
noncomputable section
open Go.RowKit
theorem Zx2 (o : Obj) : Znb o = o.isCells := by cases o <;> rfl
section
variable {P : Program} {top : Nat} {glob : Nat → Option (List D)}
theorem R.grown {g : G} {h : H} {W W' : World} {row : Option Nat} (hr : R P top g h W) (hg : W.grownBy W' row) {B : Nat} (hrow : ∀ r, row = some r → B ≤ r ∧ ∃ o : Obj, W.heap[r]? = some o ∧ o.isCells = false)
    (hm : ∀ j es b, h.mem.get j = some (.map es) → g.blk j = some b → b < B) : R P top g h W' := by
  have keep : ∀ (b : Nat) (ob : Obj), W.heap[b]? = some ob → row ≠ some b → W'.heap[b]? = some ob := fun b ob hb hne => by
    rw [hg.block b (Array.getElem?_eq_some_iff.1 hb).1 (Ne.symm hne)]; exact hb
  have ncell : ∀ (b : Nat) (c : Array Value) (t : TypeId) (f : Nat × Nat), W.heap[b]? = some (.cells c t f) → row ≠ some b := fun b c t f hb e => by
    obtain ⟨_, o, h1, h2⟩ := hrow b e
    rw [hb] at h1; cases h1; cases h2
  refine ⟨fun l o ho hn => ?_, fun id n e hi => ?_, fun b o d hd => ?_, hr.blkown, hr.slown, hr.name, hr.dom, hr.le, fun b hb => hr.block b (Nat.le_trans hg.size hb), hr.pos, hr.slblk, fun b l hb ob hob => ?_⟩
  · obtain ⟨b, ob, h1, h2, h3⟩ := hr.obj l o ho hn
    refine ⟨b, ob, h1, keep b ob h2 fun e => ?_, h3⟩
    cases h3 with
    | cells _ => exact ncell _ _ _ _ h2 e
    | map _ => exact absurd (hm _ _ _ ho h1) (by have := (hrow b e).1; omega)
  · obtain ⟨b, cap, xs, h1, h2, h3, h4⟩ := hr.tip id n e hi
    refine ⟨b, cap, xs, h1, h2.kept hg (.inr fun eq => ?_), h3, h4⟩
    simp [Value.ownBlock] at eq
    rcases h2.2 with ⟨q, _⟩ | ⟨g0, cap0, cur, q, q1, q2, q3⟩
    · cases q
    · cases q; exact ncell _ _ _ _ q2 eq.symm
  · obtain ⟨v, hv, hd'⟩ := hr.imm b o d hd
    exact ⟨v, cell_kept hv hg (fun r e => (hrow r e).2), hd'⟩
  · by_cases e : row = some b
    · obtain ⟨_, o, h1, h2⟩ := hrow b e
      rcases hr.ownk b l hb o h1 with h3 | h3
      · rw [Zx2, h2] at h3; cases h3
      · exact .inr h3
    · have hlt : b < W.heap.size := Nat.lt_of_not_le fun hq => by rw [hr.block b hq] at hb; cases hb
      rw [hg.block b hlt (fun q => e q.symm)] at hob
      exact hr.ownk b l hb ob hob
theorem Ext.grown {g g' : G} {h h' : H} {w W W' : World} {row : Option Nat} (he : Ext g h w g' h' W) (hg : W.grownBy W' row) (hrow : ∀ r, row = some r → w.heap.size ≤ r) : Ext g h w g' h' W' :=
  ⟨he.le, he.own, he.ownold, hg.os.trans he.os, hg.tape.trans he.tape, hg.output.trans he.output, Nat.le_trans he.size hg.size, fun b hb hl => by
    rw [hg.block b (Nat.lt_of_lt_of_le hb he.size) (fun e => by have := hrow b e.symm; omega)]; exact he.fr b hb hl, he.dom, he.next, he.names, he.immfr, he.slfr⟩
abbrev Elt (len : Nat) := { p : Nat × Bool // p.1 < len }
def Zcx (len : Nat) (x : Elt len) : Array Value := #[.int .i64 (x.1.1 : Int), .bool x.1.2]
structure Hd (rb rl off len cap : Nat) (W : World) : Prop where
  hdr : W.cell? ⟨rb, 0, none⟩ = some (.slice (some ⟨rl, off, none⟩) len cap)
  cells : ∀ j, j < len → ∃ v, W.cell? ⟨rl, off + j, none⟩ = some (.bool v)
theorem Hd.grown {rb rl off len cap : Nat} {W W' : World} {row : Option Nat} (h : Hd rb rl off len cap W) (hg : W.grownBy W' row) (hrow : ∀ r, row = some r → ∃ o : Obj, W.heap[r]? = some o ∧ o.isCells = false) : Hd rb rl off len cap W' :=
  ⟨cell_kept h.hdr hg hrow, fun j hj => by obtain ⟨v, hv⟩ := h.cells j hj; exact ⟨v, cell_kept hv hg hrow⟩⟩
end
end
end Go.Abs
