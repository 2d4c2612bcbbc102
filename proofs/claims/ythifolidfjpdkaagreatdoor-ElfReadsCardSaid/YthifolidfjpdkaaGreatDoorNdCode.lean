/- No name at or beyond the next one; none comes to hold what it did not. -/
import Derived.Test.YthifolidfjpdkaaGreatDoorNdRel
import Derived.Test.YthifolidfjpdkaaGreatDoorNdOpsC
import Derived.Orders
import Derived.Tactics
import Derived.LoopN
set_option linter.unusedVariables false
set_option linter.unusedSimpArgs false
namespace Go.Abs
noncomputable section
def Zqv (h : H) : Prop := ∀ l, h.next ≤ l → h.mem.get l = none
structure Grow (h h' : H) : Prop where
  next : h.next ≤ h'.next
  dom : Zqv h → Zqv h'
  old : ∀ l, l < h.next → h.mem.get l = none → h'.mem.get l = none
theorem Grow.refl (h : H) : Grow h h := ⟨Nat.le_refl _, id, fun _ _ k => k⟩
theorem Grow.trans {a b c : H} (h : Grow a b) (k : Grow b c) : Grow a c := ⟨Nat.le_trans h.next k.next, fun d => k.dom (h.dom d), fun l hl hn => k.old l (Nat.lt_of_lt_of_le hl h.next) (h.old l hl hn)⟩
theorem Grow.put {h : H} {l : Nat} {o o' : AObj} (hl : h.mem.get l = some o) : Grow h (h.put l o') := by
  refine ⟨Nat.le_refl _, fun d j hj => ?_, fun j hj hn => ?_⟩
  · have : j ≠ l := fun e => by subst e; rw [d j hj] at hl; cases hl
    simp only [H.put, Tr.get_set, this, if_false]; exact d j hj
  · have : j ≠ l := fun e => by subst e; rw [hn] at hl; cases hl
    simp only [H.put, Tr.get_set, this, if_false]; exact hn
theorem Grow.new (h : H) (o : AObj) : Grow h (h.new o).2 := by
  refine ⟨Nat.le_succ _, fun d j hj => ?_, fun j hj hn => ?_⟩
  · have hj' : h.next + 1 ≤ j := hj
    have : j ≠ h.next := by omega
    simp only [H.new, Tr.get_set, this, if_false]; exact d j (by omega)
  · have : j ≠ h.next := by omega
    simp only [H.new, Tr.get_set, this, if_false]; exact hn
def Xc (h : H) : O D → Prop
  | .ok _ h' => Grow h h'
  | .panic _ h' => Grow h h'
  | .fail _ => True
def U9 (h : H) : X → Prop
  | .out _ _ h' => Grow h h'
  | .panic _ _ h' => Grow h h'
  | .fail _ => True
theorem Xc.mk {h h' : H} {p : Bool} {d : D} (k : Xc h (O.mk p d h')) : Grow h h' := by cases p <;> exact k
theorem U9.mk {h h' : H} {r : AEnd} {a : AAct} (k : U9 h (X.mk r a h')) : Grow h h' := by cases r <;> exact k
theorem Xc.trans {a b : H} {o : O D} (h : Grow a b) (k : Xc b o) : Xc a o := by cases o <;> first | trivial | exact h.trans k
theorem U9.trans {a b : H} {o : X} (h : Grow a b) (k : U9 b o) : U9 a o := by cases o <;> first | trivial | exact h.trans k
def YB (call : Call) : Prop := ∀ f ds h, Xc h (call f ds h)
theorem Ztr {h h' : H} {n : Nat} {x y : D} (hs : Zhj h n x y = some h') : Grow h h' := by
  unfold Zhj at hs
  simp only [Bool.cond_eq_ite] at hs
  repeat' split at hs
  all_goals first | (cases hs; done) | (cases hs; exact Grow.put (by assumption))
theorem Zta {h h' : H} {e size bytes : Nat} {s x d : D} (hs : W4 h e size bytes s x = .ok d h') : Grow h h' := by
  unfold W4 at hs
  simp only [Bool.cond_eq_ite] at hs
  repeat' split at hs
  all_goals first | (cases hs; done) | (cases hs; first | exact Grow.refl _ | exact Grow.new _ _ | exact Grow.put (by assumption))
set_option maxHeartbeats 1000000 in
theorem Zm9 {c : COp} {E : Env} {call : Call} {a : AAct} {h : H} (hcn : YB call) : Xc h (WA c E call a h) := by
  cases c
  case call f args =>
    simp only [WA, Zf7, Zgm]
    split
    · exact hcn _ _ _
    · exact hcn _ _ _
    · trivial
  case app e size bytes s x =>
    simp only [WA, Ze6]
    cases hr : W4 h e size bytes (a.eval s) (a.eval x) with
    | ok d h' => exact Zta hr
    | panic d h' =>
      exfalso
      unfold W4 at hr
      simp only [Bool.cond_eq_ite] at hr
      repeat' split at hr
      all_goals cases hr
    | fail w => trivial
  case st n x y =>
    simp only [WA, Znn]
    split
    · rename_i h2 hs; exact Ztr hs
    · trivial
  all_goals
    simp only [WA, Zpn, Zha, Ze2, Zb8, Zh9, Uf, Vg, Zf6, Zf5, X3, Zke, Zda, Ze5, Zco, Zbu, Ze4, Vf, Zhb, Zb7, Ui, Zbd, Ug, Zbe, Zhc, Zcq, Zdn, Zdm, Uk, Uj, Vh, Uh, Zbf, Zc8, Zb9, VV, Zc7, Zdo, Zbg, Zcp, Zdl, Zji, Zpp, VW, Zl9, Zro, Uy, Bool.cond_eq_ite]
    repeat' split
    all_goals first | trivial | exact Grow.refl _ | exact Grow.new _ _ | exact Grow.put (by assumption) | (dsimp only; split <;> first | trivial | exact Grow.new _ _ | exact Grow.put (by assumption))
theorem Zlf {c : COp} {E : Env} {call : Call} {a : AAct} {h h' : H} {d : D} (hcn : YB call) (hrun : WA c E call a h = .ok d h') : Grow h h' := by
  have := Zm9 (c := c) (E := E) (a := a) (h := h) hcn
  rw [hrun] at this; exact this
theorem Zs0 {c : COp} {E : Env} {call : Call} {a : AAct} {h h' : H} {d : D} (hcn : YB call) (hrun : WA c E call a h = .panic d h') : Grow h h' := by
  have := Zm9 (c := c) (E := E) (a := a) (h := h) hcn
  rw [hrun] at this; exact this
theorem Zbr {E : Env} {call : Call} (hcn : YB call) : ∀ (l : List CO) (a : AAct) (h : H), U9 h (Y9 E call l a h)
  | [], a, h => Grow.refl _
  | o :: l, a, h => by
    simp only [Y9, Bool.cond_eq_ite]
    split
    · split
      · split
        · exact Zbr hcn l _ _
        · trivial
      · have h1 := Zm9 (c := o.op) (E := E) (a := a) (h := h) hcn
        split
        · rename_i d h2 hc
          have hc' : WA o.op E call a h = .ok d h2 := hc
          rw [hc'] at h1
          exact U9.trans h1 (Zbr hcn l _ _)
        · rename_i d h2 hc
          have hc' : WA o.op E call a h = .panic d h2 := hc
          rw [hc'] at h1
          exact h1
        · trivial
    · exact Zbr hcn l _ _
theorem Zet {E : Env} {call : Call} (hcn : YB call) : ∀ (l : List CO) (i : Nat) (recs : List Rec) (ZE : List (List Nat)) (a : AAct) (h : H), U9 h (Yp E call i recs ZE l a h)
  | [], i, recs, ZE, a, h => by simp only [Yp]; exact Grow.refl _
  | o :: l, i, recs, [], a, h => by simp only [Yp]; trivial
  | o :: l, i, recs, inc :: ZE, a, h => by
    simp only [Yp, Bool.cond_eq_ite]
    split
    · split
      · rename_i d h2 hc
        have h1 := Zlf hcn hc
        split
        · split
          · split
            · exact U9.trans h1 (Zet hcn l _ _ _ _ _)
            · trivial
          · trivial
        · split
          · split
            · exact U9.trans h1 (Zet hcn l _ _ _ _ _)
            · trivial
          · exact U9.trans h1 (Zet hcn l _ _ _ _ _)
      · rename_i d h2 hc
        split
        · exact Zs0 hcn hc
        · trivial
      · trivial
    · exact Zet hcn l _ _ _ _ _
theorem Zo7 {run : AAct → H → X} (hrn : ∀ a h, U9 h (run a h)) {mk : Nat → D → AAct} {a : AAct} : ∀ (l : List (Nat × D)) (h : H), U9 h (Zix run mk a l h)
  | [], h => by simp only [Zix]; exact Grow.refl _
  | (i, d) :: l, h => by
    simp only [Zix]
    have h1 := hrn (mk i d) h
    split
    · rename_i a1 h2 hb
      rw [hb] at h1
      exact U9.trans h1 (Zo7 hrn l _)
    · rename_i e1 a1 h2 hne hb
      rw [hb] at h1; exact h1
    · rename_i hb; rw [hb] at h1; exact h1
    · trivial
theorem Zev {E : Env} {call : Call} (hcn : YB call) : ∀ (n : Nat) (c : CC) (a : AAct) (h : H), U9 h (Zw E call n c a h)
  | 0, c, a, h => by simp only [Zw]; trivial
  | n + 1, c, a, h => by
    have ih := Zev (E := E) hcn n
    cases c <;> simp only [Zw, Bool.cond_eq_ite]
    case skip => exact Grow.refl _
    case ops l => exact Zbr hcn l _ _
    case draw inc l => exact Zet hcn l _ _ _ _ _
    case seq x y =>
      have h1 := ih x a h
      split
      · rename_i a1 h2 hb; rw [hb] at h1; exact U9.trans h1 (ih y _ _)
      · exact h1
    case cond c x y =>
      split
      · split
        · exact ih x _ _
        · exact ih y _ _
      · trivial
    case block id c =>
      have h1 := ih c a h
      split
      · rename_i k a1 h2 hb
        rw [hb] at h1
        split <;> exact h1
      · exact h1
    case loop c =>
      have h1 := ih c a h
      split
      · rename_i a1 h2 hb; rw [hb] at h1; exact U9.trans h1 (ih (.loop c) _ _)
      · exact h1
    case exit id => exact Grow.refl _
    case ret => exact Grow.refl _
    case stop => trivial
    case back ag size gs f x y assign body =>
      split
      · split
        · split
          · split
            · refine Zo7 (fun a h => ?_) _ _
              have h1 := ih assign a h
              split
              · rename_i a1 h2 hb1; rw [hb1] at h1; exact U9.trans h1 (ih body _ _)
              · exact h1
            · trivial
          · trivial
        · trivial
      · trivial
theorem Zo2 {fn : CFn} {a : AAct} {h : H} : Xc h (Uv fn a h) := by
  unfold Uv
  split
  · exact Grow.refl _
  · trivial
theorem Zs5 {E : Env} {call : Call} (hcn : YB call) {n : Nat} {df : D} {r : Option D} {h h' : H} (hd : Zds E call n df r h = some h') : Grow h h' := by
  unfold Zds at hd
  split at hd
  · split at hd
    · rename_i p _
      have h1 : ∀ a, U9 h (Zw E call n p.2 a h) := fun a => Zev hcn n p.2 a h
      split at hd
      · rename_i e b h2 hb
        have h3 : U9 h (.out e b h2) := hb ▸ h1 _
        split at hd
        · cases hd
        · split at hd
          · cases hd; exact h3
          · cases hd
      · cases hd
    · cases hd
  · cases hd
theorem Zgk {E : Env} {call : Call} (hcn : YB call) {n : Nat} {fn : CFn} {r : Option D} {a : AAct} {h : H} : Xc h (Ww E call n fn r a h) := by
  unfold Ww
  split
  · split
    · exact Zo2
    · exact Grow.refl _
  · split
    · rename_i h2 hd; exact Xc.trans (Zs5 hcn hd) Zo2
    · trivial
  · trivial
theorem Zg3 {E : Env} (hlib : ∀ f lf, E.lib f = some lf → ∀ ds h, Xc h (lf ds h)) : ∀ n, YB (Zb4 E n)
  | 0 => fun f ds h => by simp only [Zb4]; trivial
  | n + 1 => fun f ds h => by
    simp only [Zb4]
    split
    · rename_i lf hl; exact hlib f lf hl _ _
    · split
      · trivial
      · rename_i fn _
        have h1 := Zev (E := E) (Zg3 hlib n) n fn.body (start ds none) h
        split
        · rename_i e a1 h2 hc
          rw [hc] at h1
          split
          · trivial
          · exact Xc.trans h1 (Zgk (Zg3 hlib n))
        · rename_i d a1 h2 hc
          rw [hc] at h1
          exact Xc.trans h1 (Zgk (Zg3 hlib n))
        · trivial
end
end Go.Abs
namespace Go.Abs
noncomputable section
def Zc1 (g : G) : List D → List Deferred → Prop
  | [], [] => True
  | .func (.func f) x y :: r, d :: rs => (∃ first cap : Array Value, d = { target := .fn (.func f) cap, args := first } ∧ Zx g x first.toList ∧ Zx g y cap.toList) ∧ Zc1 g r rs
  | _, _ => False
theorem Zc1.mono {g g' : G} (hl : g.Le g') : ∀ {ds : List D} {vs : List Deferred}, Zc1 g ds vs → Zc1 g' ds vs
  | [], [], _ => trivial
  | [], _ :: _, h => h.elim
  | d :: ds, vs, h => by
    unfold Zc1 at h
    split at h
    · rename_i he; cases he
    · rename_i he; cases he
      obtain ⟨⟨first, cap, rfl, h1, h2⟩, h3⟩ := h
      exact ⟨⟨first, cap, rfl, h1.mono hl, h2.mono hl⟩, Zc1.mono hl h3⟩
    · exact h.elim
structure ARel (g : G) (a : AAct) (A : Act) (N : Nat) : Prop where
  tmp : ∀ t, VRel g (a.eval (.t t)) (A.tmps.getD t undef)
  size : N ≤ A.tmps.size
  dfr : Zc1 g a.defers A.defers
theorem ARel.mono {g g' : G} (hl : g.Le g') {a : AAct} {A : Act} {N : Nat} (h : ARel g a A N) : ARel g' a A N := ⟨fun t => (h.tmp t).mono hl, h.size, h.dfr.mono hl⟩
theorem ARel.orel {g : G} {a : AAct} {A : Act} {N : Nat} {glob : Nat → Option (List D)} (h : ARel g a A N) (hg : ∀ i cs, glob i = some cs → VRel g (.ep cs) (.pointer (some ⟨i, 0, none⟩))) : Xd g a A.eval glob := by
  intro x y hx
  cases x with
  | tmp t => simp [ZI] at hx; subst hx; exact h.tmp t
  | const v => simp [ZI] at hx; subst hx; exact .of g v
  | global i =>
    simp only [ZI] at hx
    split at hx
    · rename_i cs hc; cases hx; exact hg i cs hc
    · cases hx
  | func f => simp [ZI] at hx; subst hx; exact .v _
theorem ARel.put {g : G} {a : AAct} {A : Act} {N : Nat} (h : ARel g a A N) {dst : Option Nat} (hd : Zfr N dst = true) {d : D} {v : Value} (hv : VRel g d v) : ARel g (a.put dst d) (A.put dst v) N := by
  cases dst with
  | none => exact h
  | some t =>
    have ht : t < N := by
      have : t + 1 ≤ N := by simpa [Zfr, Nat.blt] using hd
      omega
    refine ⟨fun s => ?_, by simpa [Act.put] using h.size, h.dfr⟩
    have hs := h.tmp s
    simp only [AAct.put, AAct.eval, Tr.get_set, Act.put] at hs ⊢
    by_cases e : s = t
    · subst e
      have hlt : s < A.tmps.size := Nat.lt_of_lt_of_le ht h.size
      simp [hlt]; exact hv
    · simp only [e, if_false]
      have : (A.tmps.setIfInBounds t v).getD s undef = A.tmps.getD s undef := by
        simp [Array.getElem?_setIfInBounds_ne (Ne.symm e)]
      rw [this]; exact hs
def Exit.ofA : AExit → Exit
  | .normal => .normal
  | .exit id => .exit id
  | .ret => .ret
def AEnd.ends (g : G) (r : AEnd) (x : Exit) : Prop :=
  match r with
  | .exit e => x = Exit.ofA e
  | .panic d => ∃ v, x = .panic [{ v, recovered := false }] ∧ VRel g d v
def endB (p : Bool) (v : Value) : Ending :=
  match p with
  | false => .returned v
  | true => .panicked [{ v, recovered := false }]
def Ux (P : Program) (call : Call) (glob : Nat → Option (List D)) : Prop := ∀ f ds h p d h', call f ds h = .mk p d h' → ∀ top g w args, h'.next ≤ top → R P top g h w → (∀ i cs, glob i = some cs → VRel g (.ep cs) (.pointer (some ⟨i, 0, none⟩))) → Zx g ds args.toList →
  ((callFunc f args).run P w = .ok (.enter f args) w ∧ Calls P f args w fun e w' => ∃ v, e = endB p v ∧ ZH P top g h w d h' v w') ∨
  (p = false ∧ ∃ v w', (callFunc f args).run P w = .ok (.value v) w' ∧ ZH P top g h w d h' v w')
section
variable {P : Program} {top : Nat} {glob : Nat → Option (List D)} {g : G} {h h' : H} {w : World} {a : AAct} {A : Act} {N : Nat} {o : Oper} {d : D}
theorem Z1e {f : Opd} {args : List Opd} (hc : Zqh P glob o = some (.call f args)) : ∃ cl fo, o.op = .call cl ∧ cl.callee = .value fo ∧ ZI glob fo = some f ∧ Zfs glob cl.args.toList = some args := by
  unfold Zqh at hc
  split at hc
  case h_28 cl ho =>
    split at hc
    · rename_i fo hcl
      split at hc
      · rename_i h1 h2; cases hc; exact ⟨cl, fo, ho, hcl, h1, h2⟩
      · cases hc
    all_goals (exfalso; repeat' (first | (cases hc; done) | (obtain ⟨_, _, hh⟩ := map_some hc; cases hh; done) | split at hc | (unfold cond at hc; split at hc)))
  all_goals (exfalso; repeat' (first | (cases hc; done) | (obtain ⟨_, _, hh⟩ := map_some hc; cases hh; done) | split at hc | (unfold cond at hc; split at hc)))
theorem cop_dfr {f : Opd} (hc : Zqh P glob o = some (.dfr f)) : ∃ cl fo, o.op = .defer cl ∧ cl.callee = .value fo ∧ cl.args = #[] ∧ ZI glob fo = some f := by
  unfold Zqh at hc
  split at hc
  all_goals first
    | (rename_i cl ho
       split at hc
       · rename_i fo hcal harg
         obtain ⟨_, hh, he⟩ := map_some hc
         cases he
         exact ⟨cl, fo, ho, hcal, by simpa using harg, hh⟩
       · cases hc
       done)
    | (exfalso; repeat' (first | (cases hc; done) | (obtain ⟨_, _, hh⟩ := map_some hc; cases hh; done) | split at hc | (unfold cond at hc; split at hc)))
theorem Zx1 {x : Opd} (hc : Zqh P glob o = some (.panic x)) : ∃ y, o.op = .panic y ∧ ZI glob y = some x := by
  unfold Zqh at hc
  split at hc
  all_goals first
    | (rename_i y ho
       obtain ⟨_, hh, he⟩ := map_some hc
       cases he
       exact ⟨y, ho, hh⟩
       done)
    | (exfalso; repeat' (first | (cases hc; done) | (obtain ⟨_, _, hh⟩ := map_some hc; cases hh; done) | split at hc | (unfold cond at hc; split at hc)))
theorem Zuo {c : COp} {E : Env} {call : Call} {a : AAct} {h h' : H} {d : D} (hrun : WA c E call a h = .panic d h') : (∃ f args, c = .call f args) ∨ ∃ x, c = .panic x := by
  cases c
  case call f args => exact .inl ⟨f, args, rfl⟩
  case panic x => exact .inr ⟨x, rfl⟩
  case app e size bytes s x =>
    simp only [WA, Ze6] at hrun
    unfold W4 at hrun
    simp only [Bool.cond_eq_ite] at hrun
    repeat' split at hrun
    all_goals cases hrun
  all_goals
    simp only [WA, Zpn, Zha, Ze2, Zb8, Zh9, Uf, Vg, Zf6, Zf5, Znn, X3, Zke, Zda, Ze5, Zco, Zbu, Ze4, Vf, Zhb, Zb7, Ui, Zbd, Ug, Zbe, Zhc, Zcq, Zdn, Zdm, Uk, Uj, Vh, Uh, Zbf, Zc8, Zb9, VV, Zc7, Zdo, Zbg, Zcp, Zdl, Zji, Zpp, Zl9, Zro, Uy, Bool.cond_eq_ite] at hrun
    repeat' split at hrun
    all_goals cases hrun
theorem Zk5 {c : COp} {p : Bool} (hc : Zqh P glob o = some c) (hA : ARel g a A N) (hg : ∀ i cs, glob i = some cs → VRel g (.ep cs) (.pointer (some ⟨i, 0, none⟩))) (hr : R P top g h w) (htop : h'.next ≤ top) {call : Call} (hcall : Ux P call glob) (E : Env) (hE : E.P = P)
    (hrun : WA c E call a h = .mk p d h') {next : Act → World → Prop} {Q : Exit → Act → World → Prop}
    (hn : p = false → ∀ v w' g', Ext g h w g' h' w' → R P top g' h' w' → VRel g' d v → next (A.put o.dst v) w')
    (hp : p = true → ∀ v w' g', Ext g h w g' h' w' → R P top g' h' w' → VRel g' d v → Q (.panic [{ v, recovered := false }]) A w') : o.wp P A w next Q := by
  have he := hA.orel hg
  by_cases hca : ∃ f args, c = .call f args
  · obtain ⟨f, args, rfl⟩ := hca
    obtain ⟨cl, fo, ho, hcl, hf, hargs⟩ := Z1e hc
    have h1 := he fo f hf
    have h2 := he.evals hargs
    have hrun' : Zgm call (a.eval f) (a.evals args) h = .mk p d h' := hrun
    have fin : ∀ (fn : Nat) (ds : List D) (first captured : Array Value), A.eval fo = .func (.func fn) first captured → call fn ds h = .mk p d h' → Zx g ds (first ++ cl.args.map A.eval ++ captured).toList → o.wp P A w next Q := by
      intro fn ds first captured hfo hcl2 hrel
      have hex : (execOp A.eval o).run P w = (callFunc fn (first ++ cl.args.map A.eval ++ captured)).run P w := by
        simp only [execOp, ho, resolve, hcl, hfo, Deferred.ofValue, Sem.run_bind, Sem.run_pure, Result.andThen_ok, invoke]
      unfold Oper.wp
      rw [hex]
      rcases hcall fn ds h p d h' hcl2 top g w _ htop hr hg hrel with ⟨he1, he2⟩ | ⟨hpf, v, w', hv, g', hE', hR', hV'⟩
      · rw [he1]
        refine he2.mono ?_
        rintro e w' ⟨v, rfl, g', hE', hR', hV'⟩
        cases p with
        | false => exact hn rfl v w' g' hE' hR' hV'
        | true => exact hp rfl v w' g' hE' hR' hV'
      · rw [hv]; exact hn hpf v w' g' hE' hR' hV'
    unfold Zgm at hrun'
    split at hrun'
    · rename_i fn first captured hq
      rw [hq] at h1
      generalize hv : A.eval fo = v at h1
      cases h1
      refine fin fn _ first captured hv hrun' ?_
      simp only [Array.toList_append, Array.toList_map]
      refine ((?_ : Zx g _ _).append h2).append ?_
      · exact ⟨by simp, fun i d v hd hu => by rw [List.getElem?_map, hu] at hd; cases hd; exact .of g v⟩
      · exact ⟨by simp, fun i d v hd hu => by rw [List.getElem?_map, hu] at hd; cases hd; exact .of g v⟩
    · rename_i fn first captured hq
      rw [hq] at h1
      generalize hv : A.eval fo = v at h1
      cases h1 with
      | func l1 p1 l2 p2 =>
        rename_i cs us
        refine fin fn _ cs us hv hrun' ?_
        simp only [Array.toList_append, Array.toList_map]
        refine ((?_ : Zx g _ _).append h2).append ?_
        · exact ⟨by simpa using l1, fun i d v hd hu => p1 i d v hd (by simpa using hu)⟩
        · exact ⟨by simpa using l2, fun i d v hd hu => p2 i d v hd (by simpa using hu)⟩
    · cases p <;> cases hrun'
  · cases p with
    | false =>
      obtain ⟨v, w', hdo, g', hE', hR', hV'⟩ := op_sim hc (fun f args e => hca ⟨f, args, e⟩) he hr htop call E hE hrun
      unfold Oper.wp
      rcases hdo with hd | ⟨hd, rfl⟩
      · rw [hd]; exact hn rfl v w' g' hE' hR' hV'
      · rw [hd]; exact hn rfl undef w' g' hE' hR' hV'
    | true =>
      rcases Zuo hrun with hx | ⟨x, rfl⟩
      · exact absurd hx hca
      · obtain ⟨y, ho, hy⟩ := Zx1 hc
        have h1 := he y x hy
        have hrun' : VW x E call a h = .panic d h' := hrun
        unfold VW at hrun'
        split at hrun'
        · rename_i t d0 hq
          cases hrun'
          rw [hq] at h1
          generalize hv : A.eval y = v at h1
          cases h1 with
          | iface hh =>
            rename_i x0
            unfold Oper.wp
            have hex : (execOp A.eval o).run P w = .halt (.panic (.iface t x0)) w := by
              simp only [execOp, ho, hv, Instr.panic, Sem.run_bind]
              rfl
            rw [hex]
            exact hp rfl (.iface t x0) w g (.refl g h w) hr (.iface hh)
        · cases hrun'
theorem Zdr {all : List Oper} {ops : Array Oper} (hall : all = ops.toList) {gd : Option (Nat × Bool)} {c : COp} (hgd : Zh3 all o = some gd) (hA : ARel g a A N) : Region.wanted o (yielded ops A.tmps) = ZA a ⟨o.dst, gd, c⟩ := by
  subst hall
  unfold Zh3 at hgd
  unfold Region.wanted ZA
  cases hg : o.guard with
  | none => rw [hg] at hgd; cases hgd; rfl
  | some p =>
    obtain ⟨j, want⟩ := p
    rw [hg] at hgd
    simp only at hgd
    split at hgd
    · rename_i q hq
      split at hgd
      · rename_i t ht
        cases hgd
        have hq' : ops[j]? = some q := by simpa using hq
        have hs := hA.tmp t
        simp only [AAct.eval] at hs
        simp only [yielded, hq', Option.bind_some, ht]
        cases hget : a.tmps.get t with
        | none =>
          rw [hget] at hs
          simp only
          have hud : ∀ v, VRel g ZT v → v = undef := by
            intro v hv
            cases hv with
            | tup hl hp =>
              rename_i cs
              have h0 : cs = #[] := by simpa using hl.symm
              rw [h0]; rfl
          have this := hud _ hs
          cases hc : A.tmps[t]? with
          | none => rfl
          | some u =>
            have : u = undef := by simpa [hc] using this
            subst this; rfl
        | some dd =>
          rw [hget] at hs
          simp only at hs
          cases hc : A.tmps[t]? with
          | none =>
            have : A.tmps.getD t undef = undef := by simp [hc]
            rw [this] at hs
            cases hs <;> (cases want <;> rfl)
          | some u =>
            have : A.tmps.getD t undef = u := by simp [hc]
            rw [this] at hs
            cases hs
            case v => cases u <;> first | (cases want <;> rfl) | (rename_i b; cases b <;> cases want <;> rfl)
            all_goals (cases want <;> rfl)
      · cases hgd
    · cases hgd
theorem X.mk_out {e : AExit} {a a' : AAct} {h h' : H} {r : AEnd} (hx : X.out e a h = X.mk r a' h') : r = .exit e ∧ a' = a ∧ h' = h := by
  cases r with
  | exit e' => cases hx; exact ⟨rfl, rfl, rfl⟩
  | panic d => cases hx
theorem X.mk_panic {d : D} {a a' : AAct} {h h' : H} {r : AEnd} (hx : X.panic d a h = X.mk r a' h') : r = .panic d ∧ a' = a ∧ h' = h := by
  cases r with
  | exit e' => cases hx
  | panic d' => cases hx; exact ⟨rfl, rfl, rfl⟩
theorem X.mk_fail {w : String} {a' : AAct} {h' : H} {r : AEnd} (hx : X.fail w = X.mk r a' h') : False := by
  cases r <;> cases hx
theorem ARel.push {x y : List D} {f : Nat} {first cap : Array Value} (h : ARel g a A N) (h1 : Zx g x first.toList) (h2 : Zx g y cap.toList) : ARel g { a with defers := .func (.func f) x y :: a.defers } { A with defers := { target := .fn (.func f) cap, args := first } :: A.defers } N :=
  ⟨h.tmp, h.size, ⟨first, cap, rfl, h1, h2⟩, h.dfr⟩
theorem Zk4 {all : List Oper} {ops : Array Oper} (hall : all = ops.toList) {call : Call} (hcall : Ux P call glob) (hcn : YB call) (E : Env) (hE : E.P = P) {Q : Exit → Act → World → Prop} :
    ∀ (l : List Oper) {cl : List CO} {g : G} {h h' : H} {w : World} {a a' : AAct} {A : Act} {r : AEnd}, Zj3 P glob N all l = some cl → ARel g a A N → (∀ i cs, glob i = some cs → VRel g (.ep cs) (.pointer (some ⟨i, 0, none⟩))) → R P top g h w → h'.next ≤ top →
      Y9 E call cl a h = .mk r a' h' → (∀ w' g' A' x, Ext g h w g' h' w' → R P top g' h' w' → ARel g' a' A' N → r.ends g' x → Q x A' w') → wpList P ops Q l A w
  | [], cl, g, h, h', w, a, a', A, r, hc, hA, hg, hr, htop, hrun, hQ => by
    simp [Zj3] at hc; subst hc
    simp only [Y9] at hrun
    obtain ⟨rfl, rfl, rfl⟩ := X.mk_out hrun
    exact hQ w g A .normal (.refl g h' w) hr hA rfl
  | o :: l, cl, g, h, h', w, a, a', A, r, hc, hA, hg, hr, htop, hrun, hQ => by
    simp only [Zj3] at hc
    split at hc
    · rename_i gd c cr h1 h2 h3
      cases hd : Zfr N o.dst with
      | false => rw [hd] at hc; cases hc
      | true =>
        rw [hd] at hc
        cases hc
        have hw := Zdr hall (c := c) h1 hA
        simp only [Y9] at hrun
        simp only [wpList]
        cases hwa : ZA a ⟨o.dst, gd, c⟩ with
        | false =>
          rw [hwa] at hrun hw
          simp only [cond_false] at hrun
          rw [hw, if_neg (by simp)]
          exact Zk4 hall hcall hcn E hE l h3 (hA.put hd (.undef g)) hg hr htop hrun hQ
        | true =>
          rw [hwa] at hrun hw
          simp only [cond_true] at hrun
          rw [hw, if_pos rfl]
          refine .inl ?_
          by_cases hcd : ∃ f, c = .dfr f
          · obtain ⟨f, rfl⟩ := hcd
            obtain ⟨clx, fo, ho, hcal, harg, hfo⟩ := cop_dfr h2
            simp only at hrun
            split at hrun
            · rename_i fn x y hq
              have hv := hA.orel hg fo f hfo
              rw [hq] at hv
              generalize hve : A.eval fo = v at hv
              cases hv with
              | func l1 p1 l2 p2 =>
                rename_i cs us
                unfold Oper.wp
                have hex : (execOp A.eval o).run P w = .ok (.defer { target := .fn (.func fn) us, args := cs }) w := by
                  simp [execOp, ho, resolve, hcal, harg, hve, Deferred.ofValue, Sem.run_pure]
                rw [hex]
                have hA2 : ARel g { a with defers := .func (.func fn) x y :: a.defers } { A with defers := { target := .fn (.func fn) us, args := cs } :: A.defers } N :=
                  hA.push ⟨by simpa using l1, fun i d v hd hu => p1 i d v hd (by simpa using hu)⟩ ⟨by simpa using l2, fun i d v hd hu => p2 i d v hd (by simpa using hu)⟩
                exact Zk4 hall hcall hcn E hE l h3 (hA2.put hd (.undef g)) hg hr htop hrun hQ
            · exact (X.mk_fail hrun).elim
          · have hrun2 : (match U3 E call a c h with
              | .ok d h => Y9 E call cr (a.put o.dst d) h
              | .panic d h => .panic d a h
              | .fail w => .fail w) = X.mk r a' h' := by
              cases c <;> first | exact hrun | exact absurd ⟨_, rfl⟩ hcd
            split at hrun2
            · rename_i d2 h2' hcrun
              have hgr := Zbr (E := E) hcn cr (a.put o.dst d2) h2'
              rw [hrun2] at hgr
              refine Zk5 (p := false) h2 hA hg hr (Nat.le_trans hgr.mk.next htop) hcall E hE hcrun (fun _ v w' g' hE' hR' hV' => ?_) (fun hh => by cases hh)
              have hg' : ∀ i cs, glob i = some cs → VRel g' (.ep cs) (.pointer (some ⟨i, 0, none⟩)) := fun i cs hh => (hg i cs hh).mono hE'.le
              refine Zk4 hall hcall hcn E hE l h3 ((hA.mono hE'.le).put hd hV') hg' hR' htop hrun2 fun w'' g'' A'' x hE'' hR'' hA'' hx => ?_
              exact hQ w'' g'' A'' x (Ext.trans hr hR' hE' hE'') hR'' hA'' hx
            · rename_i d2 h2' hcrun
              obtain ⟨rfl, rfl, rfl⟩ := X.mk_panic hrun2
              refine Zk5 (p := true) h2 hA hg hr htop hcall E hE hcrun (fun hh => by cases hh) (fun _ v w' g' hE' hR' hV' => ?_)
              exact hQ w' g' A _ hE' hR' (hA.mono hE'.le) ⟨v, rfl, hV'⟩
            · exact (X.mk_fail hrun2).elim
    · cases hc
end
end
end Go.Abs
namespace Go.Abs
noncomputable section
def WI (g : G) (glob : Nat → Option (List D)) : Prop := ∀ i cs, glob i = some cs → VRel g (.ep cs) (.pointer (some ⟨i, 0, none⟩))
theorem WI.mono {g g' : G} (hl : g.Le g') {glob : Nat → Option (List D)} (h : WI g glob) : WI g' glob := fun i cs hh => (h i cs hh).mono hl
def PRel (g : G) (a : AAct) (A : Act) (N : Nat) : Prop := ARel g a A N ∨ (a.defers = [] ∧ A.defers = [])
def AEnd.act (r : AEnd) (g : G) (a : AAct) (A : Act) (N : Nat) : Prop :=
  match r with
  | .exit _ => ARel g a A N
  | .panic _ => PRel g a A N
theorem AEnd.of {r : AEnd} {g : G} {a : AAct} {A : Act} {N : Nat} (h : ARel g a A N) : r.act g a A N := by
  cases r with
  | exit e => exact h
  | panic d => exact .inl h
def Z1u (P : Program) (glob : Nat → Option (List D)) (N : Nat) (c : Code) (a : AAct) (h : H) (r : AEnd) (a' : AAct) (h' : H) : Prop :=
  ∀ (top : Nat) (g : G) (w : World) (A : Act) (Q : Exit → Act → World → Prop), h'.next ≤ top → R P top g h w → ARel g a A N → WI g glob →
    (∀ w' g' A' x, Ext g h w g' h' w' → R P top g' h' w' → r.act g' a' A' N → r.ends g' x → Q x A' w') → c.wp P Q A w
def Zwl (P : Program) (glob : Nat → Option (List D)) (N : Nat) (E : Env) : Prop := ∀ (call : Call), Ux P call glob → YB call → ∀ (id : Nat) (ops ops' : Array Oper) (l : List CO) (a : AAct) (h : H) (r : AEnd) (a' : AAct) (h' : H),
  (ops' = ops ∨ ∃ pm iv, WE pm iv ops.size = true ∧ ops' = Zho pm iv ops) → Zj3 P glob N ops'.toList ops'.toList = some l → Zgi ops'.toList l (ZE ops') = true → Yp E call 0 [] (ZE ops') l a h = .mk r a' h' → Z1u P glob N (.region id ops true) a h r a' h'
def Zqq (P : Program) (glob : Nat → Option (List D)) (N : Nat) (E : Env) (back : Option (Bool × Nat × List Nat)) : Prop := ∀ (call : Call), Ux P call glob → YB call → ∀ (f : Operand) (ps : Array Tmp) (assign body : Code) (n : Nat) (cc : CC) (a : AAct) (h : H) (r : AEnd) (a' : AAct) (h' : H),
  XX P glob N back (.rangeFunc f ps assign body) = some cc → (∀ c cc' a h r a' h', XX P glob N back c = some cc' → Zw E call n cc' a h = .mk r a' h' → Z1u P glob N c a h r a' h') →
  Zw E call (n + 1) cc a h = .mk r a' h' → Z1u P glob N (.rangeFunc f ps assign body) a h r a' h'
theorem Ziv {P : Program} {glob : Nat → Option (List D)} {N : Nat} {E : Env} : Zqq P glob N E none := by
  intro call _ _ f ps assign body n cc a h r a' h' hc
  exfalso
  simp only [XX] at hc
  repeat' (first | (cases hc; done) | split at hc)
section
variable {P : Program} {glob : Nat → Option (List D)} {N : Nat} {E : Env} {back : Option (Bool × Nat × List Nat)}
theorem Z0f {call : Call} (hcn : YB call) {c : Code} {cc : CC} (n : Nat) (hS : ∀ m, m ≤ n → ∀ a h r a' h', Zw E call m cc a h = .mk r a' h' → Z1u P glob N c a h r a' h') :
    ∀ m, m ≤ n + 1 → ∀ a h r a' h', Zw E call m (.loop cc) a h = .mk r a' h' → ∀ (top : Nat) (g : G) (w : World) (A : Act) (Q : Exit → Act → World → Prop), h'.next ≤ top → R P top g h w → ARel g a A N → WI g glob →
      (∀ w' g' A' x, Ext g h w g' h' w' → R P top g' h' w' → r.act g' a' A' N → r.ends g' x → Q x A' w') → Code.rounds P c Q m A w := by
  intro m
  induction m with
  | zero => intro _ a h r a' h' hrun; simp only [Zw] at hrun; exact (X.mk_fail hrun).elim
  | succ m ih =>
    intro hm a h r a' h' hrun top g w A Q htop hr hA hg hQ
    simp only [Zw] at hrun
    rw [rounds_succ]
    split at hrun
    · rename_i a1 h1 hb
      have hgr := Zev (E := E) hcn m (.loop cc) a1 h1
      rw [hrun] at hgr
      refine hS m (by omega) a h (.exit .normal) a1 h1 hb top g w A _ (Nat.le_trans hgr.mk.next htop) hr hA hg fun w' g' A' x hE' hR' hA' hx => ?_
      cases hx
      exact ih (by omega) a1 h1 r a' h' hrun top g' w' A' Q htop hR' hA' (hg.mono hE'.le) fun w'' g'' A'' x hE'' hR'' hA'' hx => hQ w'' g'' A'' x (Ext.trans hr hR' hE' hE'') hR'' hA'' hx
    · rename_i hne
      refine hS m (by omega) a h r a' h' hrun top g w A _ htop hr hA hg fun w' g' A' x hE' hR' hA' hx => ?_
      have := hQ w' g' A' x hE' hR' hA' hx
      cases r with
      | panic d => obtain ⟨v, rfl, hv⟩ := hx; exact this
      | exit e =>
        cases hx
        cases e with
        | normal => exact absurd hrun (hne _ _)
        | exit id => exact this
        | ret => exact this
theorem Zs2 {call : Call} (hcall : Ux P call glob) (hcn : YB call) (hE : E.P = P) (hdraw : Zwl P glob N E) (hback : Zqq P glob N E back) :
    ∀ (n : Nat) (c : Code) (cc : CC) (a : AAct) (h : H) (r : AEnd) (a' : AAct) (h' : H), XX P glob N back c = some cc → Zw E call n cc a h = .mk r a' h' → Z1u P glob N c a h r a' h' := by
  intro n
  induction n using Nat.strongRecOn with
  | _ n ih =>
    intro c cc a h r a' h' hc hrun
    cases n with
    | zero => simp only [Zw] at hrun; exact (X.mk_fail hrun).elim
    | succ n =>
      have ihn := ih n (Nat.lt_succ_self n)
      cases c with
      | skip =>
        simp [XX] at hc; subst hc
        simp only [Zw] at hrun; obtain ⟨rfl, rfl, rfl⟩ := X.mk_out hrun
        exact fun top g w A Q htop hr hA hg hQ => wp_skip (hQ w g A .normal (.refl g _ w) hr hA rfl)
      | label l =>
        simp [XX] at hc; subst hc
        simp only [Zw] at hrun; obtain ⟨rfl, rfl, rfl⟩ := X.mk_out hrun
        exact fun top g w A Q htop hr hA hg hQ => wp_label (hQ w g A .normal (.refl g _ w) hr hA rfl)
      | region id ops draw =>
        cases draw with
        | false =>
          simp only [XX, cond_false] at hc
          split at hc
          · rename_i l hl
            cases hc
            simp only [Zw] at hrun
            exact fun top g w A Q htop hr hA hg hQ => wp_region_list (Zk4 rfl hcall hcn E hE ops.toList hl hA hg hr htop hrun fun w' g' A' x h1 h2 h3 h4 => hQ w' g' A' x h1 h2 (AEnd.of h3) h4)
          · cases hc
        | true =>
          simp only [XX, cond_true] at hc
          have one : ∀ ops' : Array Oper, Zlg P glob N ops' = some cc → ∃ l, Zj3 P glob N ops'.toList ops'.toList = some l ∧ Zgi ops'.toList l (ZE ops') = true ∧ Yp E call 0 [] (ZE ops') l a h = .mk r a' h' := by
            intro ops' h1
            unfold Zlg at h1
            split at h1
            · rename_i l hl
              cases hd : Zgi ops'.toList l (ZE ops') with
              | false => simp only [hd, cond_false] at h1; cases h1
              | true =>
                simp only [hd, cond_true] at h1
                cases h1
                simp only [Zw] at hrun
                exact ⟨l, hl, hd, hrun⟩
            · cases h1
          unfold ctry at hc
          split at hc
          · rename_i c1 h1
            cases hc
            obtain ⟨l, hl, hd, hr⟩ := one ops h1
            exact hdraw call hcall hcn id ops ops l a h r a' h' (.inl rfl) hl hd hr
          · simp only at hc
            cases hp : WE (Zpt P glob ops.toList) (invOf (Zpt P glob ops.toList) ops.size) ops.size with
            | false => rw [hp] at hc; cases hc
            | true =>
              rw [hp, cond_true] at hc
              obtain ⟨l, hl, hd, hr⟩ := one _ hc
              exact hdraw call hcall hcn id ops _ l a h r a' h' (.inr ⟨_, _, hp, rfl⟩) hl hd hr
      | seq x y =>
        simp only [XX] at hc
        split at hc
        · rename_i cx cy hx hy
          cases hc
          simp only [Zw] at hrun
          split at hrun
          · rename_i a1 h1 hb
            intro top g w A Q htop hr hA hg hQ
            have hgr := Zev (E := E) hcn n cy a1 h1
            rw [hrun] at hgr
            refine wp_seq (ihn x cx a h (.exit .normal) a1 h1 hx hb top g w A _ (Nat.le_trans hgr.mk.next htop) hr hA hg fun w' g' A' xx hE' hR' hA' hxx => ?_)
            cases hxx
            exact ihn y cy a1 h1 r a' h' hy hrun top g' w' A' Q htop hR' hA' (hg.mono hE'.le) fun w'' g'' A'' xx hE'' hR'' hA'' hxx => hQ w'' g'' A'' xx (Ext.trans hr hR' hE' hE'') hR'' hA'' hxx
          · rename_i hne
            intro top g w A Q htop hr hA hg hQ
            refine wp_seq (ihn x cx a h r a' h' hx hrun top g w A _ htop hr hA hg fun w' g' A' xx hE' hR' hA' hxx => ?_)
            have := hQ w' g' A' xx hE' hR' hA' hxx
            cases r with
            | panic d => obtain ⟨v, rfl, hv⟩ := hxx; exact this
            | exit e =>
              cases hxx
              cases e with
              | normal => exact absurd hrun (hne _ _)
              | exit id => exact this
              | ret => exact this
        · cases hc
      | cond k x y =>
        simp only [XX] at hc
        split at hc
        · rename_i ck cx cy hk hx hy
          cases hc
          simp only [Zw] at hrun
          split at hrun
          · rename_i b hb
            intro top g w A Q htop hr hA hg hQ
            have h1 := hA.orel hg k ck hk
            rw [hb] at h1
            have hkv : A.eval k = .bool b := by
              generalize hv : A.eval k = v at h1
              cases h1; rfl
            refine wp_cond hkv ?_
            cases b with
            | true => exact ihn x cx a h r a' h' hx hrun top g w A Q htop hr hA hg hQ
            | false => exact ihn y cy a h r a' h' hy hrun top g w A Q htop hr hA hg hQ
          · exact (X.mk_fail hrun).elim
        · cases hc
      | block id x =>
        simp only [XX] at hc
        obtain ⟨cx, hx, rfl⟩ := map_some hc
        simp only [Zw] at hrun
        intro top g w A Q htop hr hA hg hQ
        refine wp_block ?_
        split at hrun
        · rename_i k a1 h1 hb
          cases hq : Nat.beq k id with
          | true =>
            rw [hq] at hrun
            obtain ⟨rfl, rfl, rfl⟩ := X.mk_out hrun
            refine ihn x cx a h (.exit (.exit k)) a' h' hx hb top g w A _ htop hr hA hg fun w' g' A' xx hE' hR' hA' hxx => ?_
            cases hxx
            have := Nat.eq_of_beq_eq_true hq
            show if k = id then _ else _
            rw [if_pos this]; exact hQ w' g' A' .normal hE' hR' hA' rfl
          | false =>
            rw [hq] at hrun
            obtain ⟨rfl, rfl, rfl⟩ := X.mk_out hrun
            refine ihn x cx a h (.exit (.exit k)) a' h' hx hb top g w A _ htop hr hA hg fun w' g' A' xx hE' hR' hA' hxx => ?_
            cases hxx
            have hne : k ≠ id := fun e0 => by subst e0; simp at hq
            show if k = id then _ else _
            rw [if_neg hne]; exact hQ w' g' A' _ hE' hR' hA' rfl
        · rename_i hne
          refine ihn x cx a h r a' h' hx hrun top g w A _ htop hr hA hg fun w' g' A' xx hE' hR' hA' hxx => ?_
          have := hQ w' g' A' xx hE' hR' hA' hxx
          cases r with
          | panic d => obtain ⟨v, rfl, hv⟩ := hxx; exact this
          | exit e =>
            cases hxx
            cases e with
            | normal => exact this
            | exit k => exact absurd hrun (hne _ _ _)
            | ret => exact this
      | loop x =>
        simp only [XX] at hc
        obtain ⟨cx, hx, rfl⟩ := map_some hc
        intro top g w A Q htop hr hA hg hQ
        exact wp_loop_rounds (n + 1) (Z0f hcn n (fun m hm a h r a' h' hh => ih m (by omega) x cx a h r a' h' hx hh) (n + 1) (Nat.le_refl _) a h r a' h' hrun top g w A Q htop hr hA hg hQ)
      | rangeFunc f ps assign body => exact hback call hcall hcn f ps assign body n cc a h r a' h' hc ihn hrun
      | exit id =>
        simp [XX] at hc; subst hc
        simp only [Zw] at hrun; obtain ⟨rfl, rfl, rfl⟩ := X.mk_out hrun
        exact fun top g w A Q htop hr hA hg hQ => wp_exit (hQ w g A _ (.refl g _ w) hr hA rfl)
      | scope x => simp [XX] at hc
      | goto l => simp [XX] at hc
      | ret =>
        simp [XX] at hc; subst hc
        simp only [Zw] at hrun; obtain ⟨rfl, rfl, rfl⟩ := X.mk_out hrun
        exact fun top g w A Q htop hr hA hg hQ => wp_ret (hQ w g A _ (.refl g _ w) hr hA rfl)
      | refuse why =>
        simp [XX] at hc; subst hc
        simp only [Zw] at hrun; exact (X.mk_fail hrun).elim
end
end
end Go.Abs
