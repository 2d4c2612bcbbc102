/- Code, in a world and on plain data. -/
import Derived.Test.YtlkjicigmhhjbaaGreatDoorNdOpsC
import Derived.Test.YtlkjicigmhhjbaaGreatDoorNdDom
import Derived.Orders
import Derived.Tactics
import Derived.LoopN
set_option linter.unusedVariables false
set_option linter.unusedSimpArgs false
namespace Go.Abs
noncomputable section
def Zco (g : G) : List D → List Deferred → Prop
  | [], [] => True
  | .func (.func f) x y :: r, d :: rs => (∃ first cap : Array Value, d = { target := .fn (.func f) cap, args := first } ∧ ZM g x first.toList ∧ ZM g y cap.toList) ∧ Zco g r rs
  | _, _ => False
theorem Zco.mono {g g' : G} (hl : g.Le g') : ∀ {ds : List D} {vs : List Deferred}, Zco g ds vs → Zco g' ds vs
  | [], [], _ => trivial
  | [], _ :: _, h => h.elim
  | d :: ds, vs, h => by
    unfold Zco at h
    split at h
    · rename_i he; cases he
    · rename_i he; cases he
      obtain ⟨⟨first, cap, rfl, h1, h2⟩, h3⟩ := h
      exact ⟨⟨first, cap, rfl, h1.mono hl, h2.mono hl⟩, Zco.mono hl h3⟩
    · exact h.elim
structure ARel (g : G) (a : AAct) (A : Act) (N : Nat) : Prop where
  tmp : ∀ t, VRel g (a.eval (.t t)) (A.tmps.getD t undef)
  size : N ≤ A.tmps.size
  dfr : Zco g a.defers A.defers
theorem ARel.mono {g g' : G} (hl : g.Le g') {a : AAct} {A : Act} {N : Nat} (h : ARel g a A N) : ARel g' a A N := ⟨fun t => (h.tmp t).mono hl, h.size, h.dfr.mono hl⟩
theorem ARel.orel {g : G} {a : AAct} {A : Act} {N : Nat} {glob : Nat → Option (List D)} (h : ARel g a A N) (hg : ∀ i cs, glob i = some cs → VRel g (.ep cs) (.pointer (some ⟨i, 0, none⟩))) : XC g a A.eval glob := by
  intro x y hx
  cases x with
  | tmp t => simp [Y7] at hx; subst hx; exact h.tmp t
  | const v => simp [Y7] at hx; subst hx; exact .of g v
  | global i =>
    simp only [Y7] at hx
    split at hx
    · rename_i cs hc; cases hx; exact hg i cs hc
    · cases hx
  | func f => simp [Y7] at hx; subst hx; exact .v _
theorem ARel.put {g : G} {a : AAct} {A : Act} {N : Nat} (h : ARel g a A N) {dst : Option Nat} (hd : Zd2 N dst = true) {d : D} {v : Value} (hv : VRel g d v) : ARel g (a.put dst d) (A.put dst v) N := by
  cases dst with
  | none => exact h
  | some t =>
    have ht : t < N := by
      have : t + 1 ≤ N := by simpa [Zd2, Nat.blt] using hd
      omega
    refine ⟨fun s => ?_, by simpa [Act.put] using h.size, h.dfr⟩
    have hs := h.tmp s
    simp only [AAct.put, AAct.eval, Tr.get_set, Act.put] at hs ⊢
    by_cases e : s = t
    · subst e
      have hlt : s < A.tmps.size := Nat.lt_of_lt_of_le ht h.size
      simp [hlt]; exact hv
    · simp only [e, if_false]
      have : (A.tmps.setIfInBounds t v).getD s undef = A.tmps.getD s undef := by
        simp [Array.getElem?_setIfInBounds_ne (Ne.symm e)]
      rw [this]; exact hs
def Exit.ofA : AExit → Exit
  | .normal => .normal
  | .exit id => .exit id
  | .ret => .ret
def AEnd.ends (g : G) (r : AEnd) (x : Exit) : Prop :=
  match r with
  | .exit e => x = Exit.ofA e
  | .panic d => ∃ v, x = .panic [{ v, recovered := false }] ∧ VRel g d v
def endB (p : Bool) (v : Value) : Ending :=
  match p with
  | false => .returned v
  | true => .panicked [{ v, recovered := false }]
def Wc (P : Program) (call : Call) (glob : Nat → Option (List D)) : Prop := ∀ f ds h p d h', call f ds h = .mk p d h' → ∀ top g w args, h'.next ≤ top → R P top g h w → (∀ i cs, glob i = some cs → VRel g (.ep cs) (.pointer (some ⟨i, 0, none⟩))) → ZM g ds args.toList →
  ((callFunc f args).run P w = .ok (.enter f args) w ∧ Calls P f args w fun e w' => ∃ v, e = endB p v ∧ Y0 P top g h w d h' v w') ∨
  (p = false ∧ ∃ v w', (callFunc f args).run P w = .ok (.value v) w' ∧ Y0 P top g h w d h' v w')
section
variable {P : Program} {top : Nat} {glob : Nat → Option (List D)} {g : G} {h h' : H} {w : World} {a : AAct} {A : Act} {N : Nat} {o : Oper} {d : D}
theorem Z6i {f : Opd} {args : List Opd} (hc : Zrd P glob o = some (.call f args)) : ∃ cl fo, o.op = .call cl ∧ cl.callee = .value fo ∧ Y7 glob fo = some f ∧ Zft glob cl.args.toList = some args := by
  unfold Zrd at hc
  split at hc
  case h_28 cl ho =>
    split at hc
    · rename_i fo hcl
      split at hc
      · rename_i h1 h2; cases hc; exact ⟨cl, fo, ho, hcl, h1, h2⟩
      · cases hc
    all_goals (exfalso; repeat' (first | (cases hc; done) | (obtain ⟨_, _, hh⟩ := map_some hc; cases hh; done) | split at hc | (unfold cond at hc; split at hc)))
  all_goals (exfalso; repeat' (first | (cases hc; done) | (obtain ⟨_, _, hh⟩ := map_some hc; cases hh; done) | split at hc | (unfold cond at hc; split at hc)))
theorem cop_dfr {f : Opd} (hc : Zrd P glob o = some (.dfr f)) : ∃ cl fo, o.op = .defer cl ∧ cl.callee = .value fo ∧ cl.args = #[] ∧ Y7 glob fo = some f := by
  unfold Zrd at hc
  split at hc
  all_goals first
    | (rename_i cl ho
       split at hc
       · rename_i fo hcal harg
         obtain ⟨_, hh, he⟩ := map_some hc
         cases he
         exact ⟨cl, fo, ho, hcal, by simpa using harg, hh⟩
       · cases hc
       done)
    | (exfalso; repeat' (first | (cases hc; done) | (obtain ⟨_, _, hh⟩ := map_some hc; cases hh; done) | split at hc | (unfold cond at hc; split at hc)))
theorem Z2o {x : Opd} (hc : Zrd P glob o = some (.panic x)) : ∃ y, o.op = .panic y ∧ Y7 glob y = some x := by
  unfold Zrd at hc
  split at hc
  all_goals first
    | (rename_i y ho
       obtain ⟨_, hh, he⟩ := map_some hc
       cases he
       exact ⟨y, ho, hh⟩
       done)
    | (exfalso; repeat' (first | (cases hc; done) | (obtain ⟨_, _, hh⟩ := map_some hc; cases hh; done) | split at hc | (unfold cond at hc; split at hc)))
theorem Zy3 {c : COp} {E : Env} {call : Call} {a : AAct} {h h' : H} {d : D} (hrun : Ww c E call a h = .panic d h') : (∃ f args, c = .call f args) ∨ ∃ x, c = .panic x := by
  cases c
  case call f args => exact .inl ⟨f, args, rfl⟩
  case panic x => exact .inr ⟨x, rfl⟩
  case app e size bytes s x =>
    simp only [Ww, Zgi] at hrun
    unfold Wl at hrun
    simp only [Bool.cond_eq_ite] at hrun
    repeat' split at hrun
    all_goals cases hrun
  all_goals
    simp only [Ww, Zvl, Zmk, Zge, Zcy, Zmn, UU, Vx, Zhu, Zht, Zs5, XJ, Zpc, Zdr, Zgh, Zet, Zbr, Zgg, XF, Zml, Zcx, UW, Za6, UV, VW, Zke, Zdg, Zev, Zeu, UZ, UY, UX, Zcz, VY, UT, Zc0, Zcm, Zmj, Zew, Za7, Zdf, Zes, Zpb, Zvr, Zpa, Zvk, Uu, Bool.cond_eq_ite] at hrun
    repeat' split at hrun
    all_goals cases hrun
theorem Zkh {c : COp} {p : Bool} (hc : Zrd P glob o = some c) (hA : ARel g a A N) (hg : ∀ i cs, glob i = some cs → VRel g (.ep cs) (.pointer (some ⟨i, 0, none⟩))) (hr : R P top g h w) (htop : h'.next ≤ top) {call : Call} (hcall : Wc P call glob) (E : Env) (hE : E.P = P)
    (hrun : Ww c E call a h = .mk p d h') {next : Act → World → Prop} {Q : Exit → Act → World → Prop}
    (hn : p = false → ∀ v w' g', Ext g h w g' h' w' → R P top g' h' w' → VRel g' d v → next (A.put o.dst v) w')
    (hp : p = true → ∀ v w' g', Ext g h w g' h' w' → R P top g' h' w' → VRel g' d v → Q (.panic [{ v, recovered := false }]) A w') : o.wp P A w next Q := by
  have he := hA.orel hg
  by_cases hca : ∃ f args, c = .call f args
  · obtain ⟨f, args, rfl⟩ := hca
    obtain ⟨cl, fo, ho, hcl, hf, hargs⟩ := Z6i hc
    have h1 := he fo f hf
    have h2 := he.evals hargs
    have hrun' : Zh6 call (a.eval f) (a.evals args) h = .mk p d h' := hrun
    have fin : ∀ (fn : Nat) (ds : List D) (first captured : Array Value), A.eval fo = .func (.func fn) first captured → call fn ds h = .mk p d h' → ZM g ds (first ++ cl.args.map A.eval ++ captured).toList → o.wp P A w next Q := by
      intro fn ds first captured hfo hcl2 hrel
      have hex : (execOp A.eval o).run P w = (callFunc fn (first ++ cl.args.map A.eval ++ captured)).run P w := by
        simp only [execOp, ho, resolve, hcl, hfo, Deferred.ofValue, Sem.run_bind, Sem.run_pure, Result.andThen_ok, invoke]
      unfold Oper.wp
      rw [hex]
      rcases hcall fn ds h p d h' hcl2 top g w _ htop hr hg hrel with ⟨he1, he2⟩ | ⟨hpf, v, w', hv, g', hE', hR', hV'⟩
      · rw [he1]
        refine he2.mono ?_
        rintro e w' ⟨v, rfl, g', hE', hR', hV'⟩
        cases p with
        | false => exact hn rfl v w' g' hE' hR' hV'
        | true => exact hp rfl v w' g' hE' hR' hV'
      · rw [hv]; exact hn hpf v w' g' hE' hR' hV'
    unfold Zh6 at hrun'
    split at hrun'
    · rename_i fn first captured hq
      rw [hq] at h1
      generalize hv : A.eval fo = v at h1
      cases h1
      refine fin fn _ first captured hv hrun' ?_
      simp only [Array.toList_append, Array.toList_map]
      refine ((?_ : ZM g _ _).append h2).append ?_
      · exact ⟨by simp, fun i d v hd hu => by rw [List.getElem?_map, hu] at hd; cases hd; exact .of g v⟩
      · exact ⟨by simp, fun i d v hd hu => by rw [List.getElem?_map, hu] at hd; cases hd; exact .of g v⟩
    · rename_i fn first captured hq
      rw [hq] at h1
      generalize hv : A.eval fo = v at h1
      cases h1 with
      | func l1 p1 l2 p2 =>
        rename_i cs us
        refine fin fn _ cs us hv hrun' ?_
        simp only [Array.toList_append, Array.toList_map]
        refine ((?_ : ZM g _ _).append h2).append ?_
        · exact ⟨by simpa using l1, fun i d v hd hu => p1 i d v hd (by simpa using hu)⟩
        · exact ⟨by simpa using l2, fun i d v hd hu => p2 i d v hd (by simpa using hu)⟩
    · cases p <;> cases hrun'
  · cases p with
    | false =>
      obtain ⟨v, w', hdo, g', hE', hR', hV'⟩ := op_sim hc (fun f args e => hca ⟨f, args, e⟩) he hr htop call E hE hrun
      unfold Oper.wp
      rcases hdo with hd | ⟨hd, rfl⟩
      · rw [hd]; exact hn rfl v w' g' hE' hR' hV'
      · rw [hd]; exact hn rfl undef w' g' hE' hR' hV'
    | true =>
      rcases Zy3 hrun with hx | ⟨x, rfl⟩
      · exact absurd hx hca
      · obtain ⟨y, ho, hy⟩ := Z2o hc
        have h1 := he y x hy
        have hrun' : US x E call a h = .panic d h' := hrun
        unfold US at hrun'
        split at hrun'
        · rename_i t d0 hq
          cases hrun'
          rw [hq] at h1
          generalize hv : A.eval y = v at h1
          cases h1 with
          | iface hh =>
            rename_i x0
            unfold Oper.wp
            have hex : (execOp A.eval o).run P w = .halt (.panic (.iface t x0)) w := by
              simp only [execOp, ho, hv, Instr.panic, Sem.run_bind]
              rfl
            rw [hex]
            exact hp rfl (.iface t x0) w g (.refl g h w) hr (.iface hh)
        · cases hrun'
theorem Zae {all : List Oper} {ops : Array Oper} (hall : all = ops.toList) {gd : Option (Nat × Bool)} {c : COp} (hgd : Zjo all o = some gd) (hA : ARel g a A N) : Region.wanted o (yielded ops A.tmps) = Yi a ⟨o.dst, gd, c⟩ := by
  subst hall
  unfold Zjo at hgd
  unfold Region.wanted Yi
  cases hg : o.guard with
  | none => rw [hg] at hgd; cases hgd; rfl
  | some p =>
    obtain ⟨j, want⟩ := p
    rw [hg] at hgd
    simp only at hgd
    split at hgd
    · rename_i q hq
      split at hgd
      · rename_i t ht
        cases hgd
        have hq' : ops[j]? = some q := by simpa using hq
        have hs := hA.tmp t
        simp only [AAct.eval] at hs
        simp only [yielded, hq', Option.bind_some, ht]
        cases hget : a.tmps.get t with
        | none =>
          rw [hget] at hs
          simp only
          have hud : ∀ v, VRel g Zj v → v = undef := by
            intro v hv
            cases hv with
            | tup hl hp =>
              rename_i cs
              have h0 : cs = #[] := by simpa using hl.symm
              rw [h0]; rfl
          have this := hud _ hs
          cases hc : A.tmps[t]? with
          | none => rfl
          | some u =>
            have : u = undef := by simpa [hc] using this
            subst this; rfl
        | some dd =>
          rw [hget] at hs
          simp only at hs
          cases hc : A.tmps[t]? with
          | none =>
            have : A.tmps.getD t undef = undef := by simp [hc]
            rw [this] at hs
            cases hs <;> (cases want <;> rfl)
          | some u =>
            have : A.tmps.getD t undef = u := by simp [hc]
            rw [this] at hs
            cases hs
            case v => cases u <;> first | (cases want <;> rfl) | (rename_i b; cases b <;> cases want <;> rfl)
            all_goals (cases want <;> rfl)
      · cases hgd
    · cases hgd
theorem X.mk_out {e : AExit} {a a' : AAct} {h h' : H} {r : AEnd} (hx : X.out e a h = X.mk r a' h') : r = .exit e ∧ a' = a ∧ h' = h := by
  cases r with
  | exit e' => cases hx; exact ⟨rfl, rfl, rfl⟩
  | panic d => cases hx
theorem X.mk_panic {d : D} {a a' : AAct} {h h' : H} {r : AEnd} (hx : X.panic d a h = X.mk r a' h') : r = .panic d ∧ a' = a ∧ h' = h := by
  cases r with
  | exit e' => cases hx
  | panic d' => cases hx; exact ⟨rfl, rfl, rfl⟩
theorem X.mk_fail {w : String} {a' : AAct} {h' : H} {r : AEnd} (hx : X.fail w = X.mk r a' h') : False := by
  cases r <;> cases hx
theorem ARel.push {x y : List D} {f : Nat} {first cap : Array Value} (h : ARel g a A N) (h1 : ZM g x first.toList) (h2 : ZM g y cap.toList) : ARel g { a with defers := .func (.func f) x y :: a.defers } { A with defers := { target := .fn (.func f) cap, args := first } :: A.defers } N :=
  ⟨h.tmp, h.size, ⟨first, cap, rfl, h1, h2⟩, h.dfr⟩
theorem Znm {all : List Oper} {ops : Array Oper} (hall : all = ops.toList) {call : Call} (hcall : Wc P call glob) (hcn : YF call) (E : Env) (hE : E.P = P) {Q : Exit → Act → World → Prop} :
    ∀ (l : List Oper) {cl : List CO} {g : G} {h h' : H} {w : World} {a a' : AAct} {A : Act} {r : AEnd}, Zfx P glob N all l = some cl → ARel g a A N → (∀ i cs, glob i = some cs → VRel g (.ep cs) (.pointer (some ⟨i, 0, none⟩))) → R P top g h w → h'.next ≤ top →
      YQ E call cl a h = .mk r a' h' → (∀ w' g' A' x, Ext g h w g' h' w' → R P top g' h' w' → ARel g' a' A' N → r.ends g' x → Q x A' w') → wpList P ops Q l A w
  | [], cl, g, h, h', w, a, a', A, r, hc, hA, hg, hr, htop, hrun, hQ => by
    simp [Zfx] at hc; subst hc
    simp only [YQ] at hrun
    obtain ⟨rfl, rfl, rfl⟩ := X.mk_out hrun
    exact hQ w g A .normal (.refl g h' w) hr hA rfl
  | o :: l, cl, g, h, h', w, a, a', A, r, hc, hA, hg, hr, htop, hrun, hQ => by
    simp only [Zfx] at hc
    split at hc
    · rename_i gd c cr h1 h2 h3
      cases hd : Zd2 N o.dst with
      | false => rw [hd] at hc; cases hc
      | true =>
        rw [hd] at hc
        cases hc
        have hw := Zae hall (c := c) h1 hA
        simp only [YQ] at hrun
        simp only [wpList]
        cases hwa : Yi a ⟨o.dst, gd, c⟩ with
        | false =>
          rw [hwa] at hrun hw
          simp only [cond_false] at hrun
          rw [hw, if_neg (by simp)]
          exact Znm hall hcall hcn E hE l h3 (hA.put hd (.undef g)) hg hr htop hrun hQ
        | true =>
          rw [hwa] at hrun hw
          simp only [cond_true] at hrun
          rw [hw, if_pos rfl]
          refine .inl ?_
          by_cases hcd : ∃ f, c = .dfr f
          · obtain ⟨f, rfl⟩ := hcd
            obtain ⟨clx, fo, ho, hcal, harg, hfo⟩ := cop_dfr h2
            simp only at hrun
            split at hrun
            · rename_i fn x y hq
              have hv := hA.orel hg fo f hfo
              rw [hq] at hv
              generalize hve : A.eval fo = v at hv
              cases hv with
              | func l1 p1 l2 p2 =>
                rename_i cs us
                unfold Oper.wp
                have hex : (execOp A.eval o).run P w = .ok (.defer { target := .fn (.func fn) us, args := cs }) w := by
                  simp [execOp, ho, resolve, hcal, harg, hve, Deferred.ofValue, Sem.run_pure]
                rw [hex]
                have hA2 : ARel g { a with defers := .func (.func fn) x y :: a.defers } { A with defers := { target := .fn (.func fn) us, args := cs } :: A.defers } N :=
                  hA.push ⟨by simpa using l1, fun i d v hd hu => p1 i d v hd (by simpa using hu)⟩ ⟨by simpa using l2, fun i d v hd hu => p2 i d v hd (by simpa using hu)⟩
                exact Znm hall hcall hcn E hE l h3 (hA2.put hd (.undef g)) hg hr htop hrun hQ
            · exact (X.mk_fail hrun).elim
          · have hrun2 : (match Zce E call a c h with
              | .ok d h => YQ E call cr (a.put o.dst d) h
              | .panic d h => .panic d a h
              | .fail w => .fail w) = X.mk r a' h' := by
              cases c <;> first | exact hrun | exact absurd ⟨_, rfl⟩ hcd
            split at hrun2
            · rename_i d2 h2' hcrun
              have hgr := VB (E := E) hcn cr (a.put o.dst d2) h2'
              rw [hrun2] at hgr
              refine Zkh (p := false) h2 hA hg hr (Nat.le_trans hgr.mk.next htop) hcall E hE hcrun (fun _ v w' g' hE' hR' hV' => ?_) (fun hh => by cases hh)
              have hg' : ∀ i cs, glob i = some cs → VRel g' (.ep cs) (.pointer (some ⟨i, 0, none⟩)) := fun i cs hh => (hg i cs hh).mono hE'.le
              refine Znm hall hcall hcn E hE l h3 ((hA.mono hE'.le).put hd hV') hg' hR' htop hrun2 fun w'' g'' A'' x hE'' hR'' hA'' hx => ?_
              exact hQ w'' g'' A'' x (Ext.trans hr hR' hE' hE'') hR'' hA'' hx
            · rename_i d2 h2' hcrun
              obtain ⟨rfl, rfl, rfl⟩ := X.mk_panic hrun2
              refine Zkh (p := true) h2 hA hg hr htop hcall E hE hcrun (fun hh => by cases hh) (fun _ v w' g' hE' hR' hV' => ?_)
              exact hQ w' g' A _ hE' hR' (hA.mono hE'.le) ⟨v, rfl, hV'⟩
            · exact (X.mk_fail hrun2).elim
    · cases hc
end
end
end Go.Abs
namespace Go.Abs
noncomputable section
def XI (g : G) (glob : Nat → Option (List D)) : Prop := ∀ i cs, glob i = some cs → VRel g (.ep cs) (.pointer (some ⟨i, 0, none⟩))
theorem XI.mono {g g' : G} (hl : g.Le g') {glob : Nat → Option (List D)} (h : XI g glob) : XI g' glob := fun i cs hh => (h i cs hh).mono hl
def PRel (g : G) (a : AAct) (A : Act) (N : Nat) : Prop := ARel g a A N ∨ (a.defers = [] ∧ A.defers = [])
def AEnd.act (r : AEnd) (g : G) (a : AAct) (A : Act) (N : Nat) : Prop :=
  match r with
  | .exit _ => ARel g a A N
  | .panic _ => PRel g a A N
theorem AEnd.of {r : AEnd} {g : G} {a : AAct} {A : Act} {N : Nat} (h : ARel g a A N) : r.act g a A N := by
  cases r with
  | exit e => exact h
  | panic d => exact .inl h
def Z6s (P : Program) (glob : Nat → Option (List D)) (N : Nat) (c : Code) (a : AAct) (h : H) (r : AEnd) (a' : AAct) (h' : H) : Prop :=
  ∀ (top : Nat) (g : G) (w : World) (A : Act) (Q : Exit → Act → World → Prop), h'.next ≤ top → R P top g h w → ARel g a A N → XI g glob →
    (∀ w' g' A' x, Ext g h w g' h' w' → R P top g' h' w' → r.act g' a' A' N → r.ends g' x → Q x A' w') → c.wp P Q A w
def Z0w (P : Program) (glob : Nat → Option (List D)) (N : Nat) (E : Env) : Prop := ∀ (call : Call), Wc P call glob → YF call → ∀ (id : Nat) (ops ops' : Array Oper) (l : List CO) (a : AAct) (h : H) (r : AEnd) (a' : AAct) (h' : H),
  (ops' = ops ∨ ∃ pm iv, XG pm iv ops.size = true ∧ ops' = Zdt pm iv ops) → Zfx P glob N ops'.toList ops'.toList = some l → Zcd ops'.toList l (incs ops') = true → Xd E call 0 [] (incs ops') l a h = .mk r a' h' → Z6s P glob N (.region id ops true) a h r a' h'
def Ztx (P : Program) (glob : Nat → Option (List D)) (N : Nat) (E : Env) (back : Option (Bool × Nat × List Nat)) : Prop := ∀ (call : Call), Wc P call glob → YF call → ∀ (f : Operand) (ps : Array Tmp) (assign body : Code) (n : Nat) (cc : CC) (a : AAct) (h : H) (r : AEnd) (a' : AAct) (h' : H),
  Yk P glob N back (.rangeFunc f ps assign body) = some cc → (∀ c cc' a h r a' h', Yk P glob N back c = some cc' → ZN E call n cc' a h = .mk r a' h' → Z6s P glob N c a h r a' h') →
  ZN E call (n + 1) cc a h = .mk r a' h' → Z6s P glob N (.rangeFunc f ps assign body) a h r a' h'
theorem Zk2 {P : Program} {glob : Nat → Option (List D)} {N : Nat} {E : Env} : Ztx P glob N E none := by
  intro call _ _ f ps assign body n cc a h r a' h' hc
  exfalso
  simp only [Yk] at hc
  repeat' (first | (cases hc; done) | split at hc)
section
variable {P : Program} {glob : Nat → Option (List D)} {N : Nat} {E : Env} {back : Option (Bool × Nat × List Nat)}
theorem Z5q {call : Call} (hcn : YF call) {c : Code} {cc : CC} (n : Nat) (hS : ∀ m, m ≤ n → ∀ a h r a' h', ZN E call m cc a h = .mk r a' h' → Z6s P glob N c a h r a' h') :
    ∀ m, m ≤ n + 1 → ∀ a h r a' h', ZN E call m (.loop cc) a h = .mk r a' h' → ∀ (top : Nat) (g : G) (w : World) (A : Act) (Q : Exit → Act → World → Prop), h'.next ≤ top → R P top g h w → ARel g a A N → XI g glob →
      (∀ w' g' A' x, Ext g h w g' h' w' → R P top g' h' w' → r.act g' a' A' N → r.ends g' x → Q x A' w') → Code.rounds P c Q m A w := by
  intro m
  induction m with
  | zero => intro _ a h r a' h' hrun; simp only [ZN] at hrun; exact (X.mk_fail hrun).elim
  | succ m ih =>
    intro hm a h r a' h' hrun top g w A Q htop hr hA hg hQ
    simp only [ZN] at hrun
    rw [rounds_succ]
    split at hrun
    · rename_i a1 h1 hb
      have hgr := VF (E := E) hcn m (.loop cc) a1 h1
      rw [hrun] at hgr
      refine hS m (by omega) a h (.exit .normal) a1 h1 hb top g w A _ (Nat.le_trans hgr.mk.next htop) hr hA hg fun w' g' A' x hE' hR' hA' hx => ?_
      cases hx
      exact ih (by omega) a1 h1 r a' h' hrun top g' w' A' Q htop hR' hA' (hg.mono hE'.le) fun w'' g'' A'' x hE'' hR'' hA'' hx => hQ w'' g'' A'' x (Ext.trans hr hR' hE' hE'') hR'' hA'' hx
    · rename_i hne
      refine hS m (by omega) a h r a' h' hrun top g w A _ htop hr hA hg fun w' g' A' x hE' hR' hA' hx => ?_
      have := hQ w' g' A' x hE' hR' hA' hx
      cases r with
      | panic d => obtain ⟨v, rfl, hv⟩ := hx; exact this
      | exit e =>
        cases hx
        cases e with
        | normal => exact absurd hrun (hne _ _)
        | exit id => exact this
        | ret => exact this
theorem Zw1 {call : Call} (hcall : Wc P call glob) (hcn : YF call) (hE : E.P = P) (hdraw : Z0w P glob N E) (hback : Ztx P glob N E back) :
    ∀ (n : Nat) (c : Code) (cc : CC) (a : AAct) (h : H) (r : AEnd) (a' : AAct) (h' : H), Yk P glob N back c = some cc → ZN E call n cc a h = .mk r a' h' → Z6s P glob N c a h r a' h' := by
  intro n
  induction n using Nat.strongRecOn with
  | _ n ih =>
    intro c cc a h r a' h' hc hrun
    cases n with
    | zero => simp only [ZN] at hrun; exact (X.mk_fail hrun).elim
    | succ n =>
      have ihn := ih n (Nat.lt_succ_self n)
      cases c with
      | skip =>
        simp [Yk] at hc; subst hc
        simp only [ZN] at hrun; obtain ⟨rfl, rfl, rfl⟩ := X.mk_out hrun
        exact fun top g w A Q htop hr hA hg hQ => wp_skip (hQ w g A .normal (.refl g _ w) hr hA rfl)
      | label l =>
        simp [Yk] at hc; subst hc
        simp only [ZN] at hrun; obtain ⟨rfl, rfl, rfl⟩ := X.mk_out hrun
        exact fun top g w A Q htop hr hA hg hQ => wp_label (hQ w g A .normal (.refl g _ w) hr hA rfl)
      | region id ops draw =>
        cases draw with
        | false =>
          simp only [Yk, cond_false] at hc
          split at hc
          · rename_i l hl
            cases hc
            simp only [ZN] at hrun
            exact fun top g w A Q htop hr hA hg hQ => wp_region_list (Znm rfl hcall hcn E hE ops.toList hl hA hg hr htop hrun fun w' g' A' x h1 h2 h3 h4 => hQ w' g' A' x h1 h2 (AEnd.of h3) h4)
          · cases hc
        | true =>
          simp only [Yk, cond_true] at hc
          have one : ∀ ops' : Array Oper, Zfl P glob N ops' = some cc → ∃ l, Zfx P glob N ops'.toList ops'.toList = some l ∧ Zcd ops'.toList l (incs ops') = true ∧ Xd E call 0 [] (incs ops') l a h = .mk r a' h' := by
            intro ops' h1
            unfold Zfl at h1
            split at h1
            · rename_i l hl
              cases hd : Zcd ops'.toList l (incs ops') with
              | false => simp only [hd, cond_false] at h1; cases h1
              | true =>
                simp only [hd, cond_true] at h1
                cases h1
                simp only [ZN] at hrun
                exact ⟨l, hl, hd, hrun⟩
            · cases h1
          unfold ctry at hc
          split at hc
          · rename_i c1 h1
            cases hc
            obtain ⟨l, hl, hd, hr⟩ := one ops h1
            exact hdraw call hcall hcn id ops ops l a h r a' h' (.inl rfl) hl hd hr
          · simp only at hc
            cases hp : XG (Zkg P glob ops.toList) (Z5y (Zkg P glob ops.toList) ops.size) ops.size with
            | false => rw [hp] at hc; cases hc
            | true =>
              rw [hp, cond_true] at hc
              obtain ⟨l, hl, hd, hr⟩ := one _ hc
              exact hdraw call hcall hcn id ops _ l a h r a' h' (.inr ⟨_, _, hp, rfl⟩) hl hd hr
      | seq x y =>
        simp only [Yk] at hc
        split at hc
        · rename_i cx cy hx hy
          cases hc
          simp only [ZN] at hrun
          split at hrun
          · rename_i a1 h1 hb
            intro top g w A Q htop hr hA hg hQ
            have hgr := VF (E := E) hcn n cy a1 h1
            rw [hrun] at hgr
            refine wp_seq (ihn x cx a h (.exit .normal) a1 h1 hx hb top g w A _ (Nat.le_trans hgr.mk.next htop) hr hA hg fun w' g' A' xx hE' hR' hA' hxx => ?_)
            cases hxx
            exact ihn y cy a1 h1 r a' h' hy hrun top g' w' A' Q htop hR' hA' (hg.mono hE'.le) fun w'' g'' A'' xx hE'' hR'' hA'' hxx => hQ w'' g'' A'' xx (Ext.trans hr hR' hE' hE'') hR'' hA'' hxx
          · rename_i hne
            intro top g w A Q htop hr hA hg hQ
            refine wp_seq (ihn x cx a h r a' h' hx hrun top g w A _ htop hr hA hg fun w' g' A' xx hE' hR' hA' hxx => ?_)
            have := hQ w' g' A' xx hE' hR' hA' hxx
            cases r with
            | panic d => obtain ⟨v, rfl, hv⟩ := hxx; exact this
            | exit e =>
              cases hxx
              cases e with
              | normal => exact absurd hrun (hne _ _)
              | exit id => exact this
              | ret => exact this
        · cases hc
      | cond k x y =>
        simp only [Yk] at hc
        split at hc
        · rename_i ck cx cy hk hx hy
          cases hc
          simp only [ZN] at hrun
          split at hrun
          · rename_i b hb
            intro top g w A Q htop hr hA hg hQ
            have h1 := hA.orel hg k ck hk
            rw [hb] at h1
            have hkv : A.eval k = .bool b := by
              generalize hv : A.eval k = v at h1
              cases h1; rfl
            refine wp_cond hkv ?_
            cases b with
            | true => exact ihn x cx a h r a' h' hx hrun top g w A Q htop hr hA hg hQ
            | false => exact ihn y cy a h r a' h' hy hrun top g w A Q htop hr hA hg hQ
          · exact (X.mk_fail hrun).elim
        · cases hc
      | block id x =>
        simp only [Yk] at hc
        obtain ⟨cx, hx, rfl⟩ := map_some hc
        simp only [ZN] at hrun
        intro top g w A Q htop hr hA hg hQ
        refine wp_block ?_
        split at hrun
        · rename_i k a1 h1 hb
          cases hq : Nat.beq k id with
          | true =>
            rw [hq] at hrun
            obtain ⟨rfl, rfl, rfl⟩ := X.mk_out hrun
            refine ihn x cx a h (.exit (.exit k)) a' h' hx hb top g w A _ htop hr hA hg fun w' g' A' xx hE' hR' hA' hxx => ?_
            cases hxx
            have := Nat.eq_of_beq_eq_true hq
            show if k = id then _ else _
            rw [if_pos this]; exact hQ w' g' A' .normal hE' hR' hA' rfl
          | false =>
            rw [hq] at hrun
            obtain ⟨rfl, rfl, rfl⟩ := X.mk_out hrun
            refine ihn x cx a h (.exit (.exit k)) a' h' hx hb top g w A _ htop hr hA hg fun w' g' A' xx hE' hR' hA' hxx => ?_
            cases hxx
            have hne : k ≠ id := fun e0 => by subst e0; simp at hq
            show if k = id then _ else _
            rw [if_neg hne]; exact hQ w' g' A' _ hE' hR' hA' rfl
        · rename_i hne
          refine ihn x cx a h r a' h' hx hrun top g w A _ htop hr hA hg fun w' g' A' xx hE' hR' hA' hxx => ?_
          have := hQ w' g' A' xx hE' hR' hA' hxx
          cases r with
          | panic d => obtain ⟨v, rfl, hv⟩ := hxx; exact this
          | exit e =>
            cases hxx
            cases e with
            | normal => exact this
            | exit k => exact absurd hrun (hne _ _ _)
            | ret => exact this
      | loop x =>
        simp only [Yk] at hc
        obtain ⟨cx, hx, rfl⟩ := map_some hc
        intro top g w A Q htop hr hA hg hQ
        exact wp_loop_rounds (n + 1) (Z5q hcn n (fun m hm a h r a' h' hh => ih m (by omega) x cx a h r a' h' hx hh) (n + 1) (Nat.le_refl _) a h r a' h' hrun top g w A Q htop hr hA hg hQ)
      | rangeFunc f ps assign body => exact hback call hcall hcn f ps assign body n cc a h r a' h' hc ihn hrun
      | exit id =>
        simp [Yk] at hc; subst hc
        simp only [ZN] at hrun; obtain ⟨rfl, rfl, rfl⟩ := X.mk_out hrun
        exact fun top g w A Q htop hr hA hg hQ => wp_exit (hQ w g A _ (.refl g _ w) hr hA rfl)
      | scope x => simp [Yk] at hc
      | goto l => simp [Yk] at hc
      | ret =>
        simp [Yk] at hc; subst hc
        simp only [ZN] at hrun; obtain ⟨rfl, rfl, rfl⟩ := X.mk_out hrun
        exact fun top g w A Q htop hr hA hg hQ => wp_ret (hQ w g A _ (.refl g _ w) hr hA rfl)
      | refuse why =>
        simp [Yk] at hc; subst hc
        simp only [ZN] at hrun; exact (X.mk_fail hrun).elim
end
end
end Go.Abs
