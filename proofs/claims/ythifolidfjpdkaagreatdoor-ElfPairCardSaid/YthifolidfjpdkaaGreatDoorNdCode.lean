/- No name at or beyond the next one; none comes to hold what it did not. -/
import Derived.Test.YthifolidfjpdkaaGreatDoorNdRel
import Derived.Test.YthifolidfjpdkaaGreatDoorNdOpsC
import Derived.Orders
import Derived.Tactics
import Derived.LoopN
set_option linter.unusedVariables false
set_option linter.unusedSimpArgs false
namespace Go.Abs
noncomputable section
def Zrt (h : H) : Prop := ∀ l,h.next ≤ l → h.mem.get l = none
structure Grow (h h' : H) : Prop where
  next : h.next ≤ h'.next
  dom : Zrt h → Zrt h'
  old : ∀ l,l < h.next → h.mem.get l = none → h'.mem.get l = none
theorem Grow.refl (h : H) : Grow h h := ⟨Nat.le_refl _,id,fun _ _ k => k⟩
theorem Grow.trans {a b c : H} (h : Grow a b) (k : Grow b c) : Grow a c := ⟨Nat.le_trans h.next k.next,fun d => k.dom (h.dom d),fun l hl hn => k.old l (Nat.lt_of_lt_of_le hl h.next) (h.old l hl hn)⟩
theorem Grow.put {h : H} {l : Nat} {o o' : AObj} (hl : h.mem.get l = some o) : Grow h (h.put l o') := by
  refine ⟨Nat.le_refl _,fun d j hj => ?_,fun j hj hn => ?_⟩
  · have : j ≠ l := fun e => by subst e; rw [d j hj] at hl; cases hl
    simp only [H.put,Tr.get_set,this,if_false]; exact d j hj
  · have : j ≠ l := fun e => by subst e; rw [hn] at hl; cases hl
    simp only [H.put,Tr.get_set,this,if_false]; exact hn
theorem Grow.new (h : H) (o : AObj) : Grow h (h.new o).2 := by
  refine ⟨Nat.le_succ _,fun d j hj => ?_,fun j hj hn => ?_⟩
  · have hj' : h.next + 1 ≤ j := hj
    have : j ≠ h.next := by omega
    simp only [H.new,Tr.get_set,this,if_false]; exact d j (by omega)
  · have : j ≠ h.next := by omega
    simp only [H.new,Tr.get_set,this,if_false]; exact hn
def Xv (h : H) : O D → Prop
  | .ok _ h' => Grow h h'
  | .panic _ h' => Grow h h'
  | .fail _ => True
def Zag (h : H) : X → Prop
  | .out _ _ h' => Grow h h'
  | .panic _ _ h' => Grow h h'
  | .fail _ => True
theorem Xv.mk {h h' : H} {p : Bool} {d : D} (k : Xv h (O.mk p d h')) : Grow h h' := by cases p <;> exact k
theorem Zag.mk {h h' : H} {r : AEnd} {a : AAct} (k : Zag h (X.mk r a h')) : Grow h h' := by cases r <;> exact k
theorem Xv.trans {a b : H} {o : O D} (h : Grow a b) (k : Xv b o) : Xv a o := by cases o <;> first | trivial | exact h.trans k
theorem Zag.trans {a b : H} {o : X} (h : Grow a b) (k : Zag b o) : Zag a o := by cases o <;> first | trivial | exact h.trans k
def ZX (call : Call) : Prop := ∀ f ds h,Xv h (call f ds h)
theorem Zwp {h h' : H} {n : Nat} {x y : D} (hs : Zjb h n x y = some h') : Grow h h' := by
  unfold Zjb at hs
  simp only [Bool.cond_eq_ite] at hs
  repeat' split at hs
  all_goals first | (cases hs; done) | (cases hs; exact Grow.put (by assumption))
theorem Zv8 {h h' : H} {e size bytes : Nat} {s x d : D} (hs : Vb h e size bytes s x = .ok d h') : Grow h h' := by
  unfold Vb at hs
  simp only [Bool.cond_eq_ite] at hs
  repeat' split at hs
  all_goals first | (cases hs; done) | (cases hs; first | exact Grow.refl _ | exact Grow.new _ _ | exact Grow.put (by assumption))
set_option maxHeartbeats 1000000 in
theorem Zph {c : COp} {E : Env} {call : Call} {a : AAct} {h : H} (hcn : ZX call) : Xv h (Vh c E call a h) := by
  cases c
  case call f args =>
    simp only [Vh,Zhl,Zh5]
    split
    · exact hcn _ _ _
    · exact hcn _ _ _
    · trivial
  case app e size bytes s x =>
    simp only [Vh,Zgi]
    cases hr : Vb h e size bytes (a.eval s) (a.eval x) with
    | ok d h' => exact Zv8 hr
    | panic d h' =>
      exfalso
      unfold Vb at hr
      simp only [Bool.cond_eq_ite] at hr
      repeat' split at hr
      all_goals cases hr
    | fail w => trivial
  case st n x y =>
    simp only [Vh,Zpx]
    split
    · rename_i h2 hs; exact Zwp hs
    · trivial
  all_goals
    simp only [Vh,Zsc,Ziz,Zge,Zdo,Zj6,Za0,U6,Zhk,Zhj,Xs,Zmh,Zey,Zgh,Zd4,Zbw,Zgg,U5,Zi0,Zdn,Za3,Zb7,Za1,Zb8,Zi1,Zd6,Zfc,Zfb,Za5,Za4,U7,Za2,Zb9,Zex,Zdp,UR,Zew,Zfd,Zca,Zd5,Zfa,Zlh,Zse,US,Zob,Zuj,Zbl,Bool.cond_eq_ite]
    repeat' split
    all_goals first | trivial | exact Grow.refl _ | exact Grow.new _ _ | exact Grow.put (by assumption) | (dsimp only; split <;> first | trivial | exact Grow.new _ _ | exact Grow.put (by assumption))
theorem Zng {c : COp} {E : Env} {call : Call} {a : AAct} {h h' : H} {d : D} (hcn : ZX call) (hrun : Vh c E call a h = .ok d h') : Grow h h' := by
  have := Zph (c := c) (E := E) (a := a) (h := h) hcn
  rw [hrun] at this; exact this
theorem Zvx {c : COp} {E : Env} {call : Call} {a : AAct} {h h' : H} {d : D} (hcn : ZX call) (hrun : Vh c E call a h = .panic d h') : Grow h h' := by
  have := Zph (c := c) (E := E) (a := a) (h := h) hcn
  rw [hrun] at this; exact this
theorem Zac {E : Env} {call : Call} (hcn : ZX call) : ∀ (l : List CO) (a : AAct) (h : H),Zag h (ZP E call l a h)
  | [],a,h => Grow.refl _
  | o :: l,a,h => by
    simp only [ZP,Bool.cond_eq_ite]
    split
    · split
      · split
        · exact Zac hcn l _ _
        · trivial
      · have h1 := Zph (c := o.op) (E := E) (a := a) (h := h) hcn
        split
        · rename_i d h2 hc
          have hc' : Vh o.op E call a h = .ok d h2 := hc
          rw [hc'] at h1
          exact Zag.trans h1 (Zac hcn l _ _)
        · rename_i d h2 hc
          have hc' : Vh o.op E call a h = .panic d h2 := hc
          rw [hc'] at h1
          exact h1
        · trivial
    · exact Zac hcn l _ _
theorem Zf3 {E : Env} {call : Call} (hcn : ZX call) : ∀ (l : List CO) (i : Nat) (recs : List Rec) (Zr : List (List Nat)) (a : AAct) (h : H),Zag h (Yk E call i recs Zr l a h)
  | [],i,recs,Zr,a,h => by simp only [Yk]; exact Grow.refl _
  | o :: l,i,recs,[],a,h => by simp only [Yk]; trivial
  | o :: l,i,recs,inc :: Zr,a,h => by
    simp only [Yk,Bool.cond_eq_ite]
    split
    · split
      · rename_i d h2 hc
        have h1 := Zng hcn hc
        split
        · split
          · split
            · exact Zag.trans h1 (Zf3 hcn l _ _ _ _ _)
            · trivial
          · trivial
        · split
          · split
            · exact Zag.trans h1 (Zf3 hcn l _ _ _ _ _)
            · trivial
          · exact Zag.trans h1 (Zf3 hcn l _ _ _ _ _)
      · rename_i d h2 hc
        split
        · exact Zvx hcn hc
        · trivial
      · trivial
    · exact Zf3 hcn l _ _ _ _ _
theorem Zrq {run : AAct → H → X} (hrn : ∀ a h,Zag h (run a h)) {mk : Nat → D → AAct} {a : AAct} : ∀ (l : List (Nat × D)) (h : H),Zag h (Zkw run mk a l h)
  | [],h => by simp only [Zkw]; exact Grow.refl _
  | (i,d) :: l,h => by
    simp only [Zkw]
    have h1 := hrn (mk i d) h
    split
    · rename_i a1 h2 hb
      rw [hb] at h1
      exact Zag.trans h1 (Zrq hrn l _)
    · rename_i e1 a1 h2 hne hb
      rw [hb] at h1; exact h1
    · rename_i hb; rw [hb] at h1; exact h1
    · trivial
theorem Zae {E : Env} {call : Call} (hcn : ZX call) : ∀ (n : Nat) (c : CC) (a : AAct) (h : H),Zag h (Zc E call n c a h)
  | 0,c,a,h => by simp only [Zc]; trivial
  | n + 1,c,a,h => by
    have ih := Zae (E := E) hcn n
    cases c <;> simp only [Zc,Bool.cond_eq_ite]
    case skip => exact Grow.refl _
    case ops l => exact Zac hcn l _ _
    case draw inc l => exact Zf3 hcn l _ _ _ _ _
    case seq x y =>
      have h1 := ih x a h
      split
      · rename_i a1 h2 hb; rw [hb] at h1; exact Zag.trans h1 (ih y _ _)
      · exact h1
    case cond c x y =>
      split
      · split
        · exact ih x _ _
        · exact ih y _ _
      · trivial
    case block id c =>
      have h1 := ih c a h
      split
      · rename_i k a1 h2 hb
        rw [hb] at h1
        split <;> exact h1
      · exact h1
    case loop c =>
      have h1 := ih c a h
      split
      · rename_i a1 h2 hb; rw [hb] at h1; exact Zag.trans h1 (ih (.loop c) _ _)
      · exact h1
    case exit id => exact Grow.refl _
    case ret => exact Grow.refl _
    case stop => trivial
    case back ag size gs f x y assign body =>
      split
      · split
        · split
          · split
            · refine Zrq (fun a h => ?_) _ _
              have h1 := ih assign a h
              split
              · rename_i a1 h2 hb1; rw [hb1] at h1; exact Zag.trans h1 (ih body _ _)
              · exact h1
            · trivial
          · trivial
        · trivial
      · trivial
theorem Zrk {fn : CFn} {a : AAct} {h : H} : Xv h (Zbj fn a h) := by
  unfold Zbj
  split
  · exact Grow.refl _
  · trivial
theorem Zv3 {E : Env} {call : Call} (hcn : ZX call) {n : Nat} {df : D} {r : Option D} {h h' : H} (hd : Zfh E call n df r h = some h') : Grow h h' := by
  unfold Zfh at hd
  split at hd
  · split at hd
    · rename_i p _
      have h1 : ∀ a,Zag h (Zc E call n p.2 a h) := fun a => Zae hcn n p.2 a h
      split at hd
      · rename_i e b h2 hb
        have h3 : Zag h (.out e b h2) := hb ▸ h1 _
        split at hd
        · cases hd
        · split at hd
          · cases hd; exact h3
          · cases hd
      · cases hd
    · cases hd
  · cases hd
theorem Zh2 {E : Env} {call : Call} (hcn : ZX call) {n : Nat} {fn : CFn} {r : Option D} {a : AAct} {h : H} : Xv h (Vg E call n fn r a h) := by
  unfold Vg
  split
  · split
    · exact Zrk
    · exact Grow.refl _
  · split
    · rename_i h2 hd; exact Xv.trans (Zv3 hcn hd) Zrk
    · trivial
  · trivial
theorem Zd0 {E : Env} (hlib : ∀ f lf,E.lib f = some lf → ∀ ds h,Xv h (lf ds h)) : ∀ n,ZX (Zdk E n)
  | 0 => fun f ds h => by simp only [Zdk]; trivial
  | n + 1 => fun f ds h => by
    simp only [Zdk]
    split
    · rename_i lf hl; exact hlib f lf hl _ _
    · split
      · trivial
      · rename_i fn _
        have h1 := Zae (E := E) (Zd0 hlib n) n fn.body (start ds none) h
        split
        · rename_i e a1 h2 hc
          rw [hc] at h1
          split
          · trivial
          · exact Xv.trans h1 (Zh2 (Zd0 hlib n))
        · rename_i d a1 h2 hc
          rw [hc] at h1
          exact Xv.trans h1 (Zh2 (Zd0 hlib n))
        · trivial
end
end Go.Abs
namespace Go.Abs
noncomputable section
def Zen (g : G) : List D → List Deferred → Prop
  | [],[] => True
  | .func (.func f) x y :: r,d :: rs => (∃ first cap : Array Value,d = { target := .fn (.func f) cap,args := first } ∧ Zk g x first.toList ∧ Zk g y cap.toList) ∧ Zen g r rs
  | _,_ => False
theorem Zen.mono {g g' : G} (hl : g.Le g') : ∀ {ds : List D} {vs : List Deferred},Zen g ds vs → Zen g' ds vs
  | [],[],_ => trivial
  | [],_ :: _,h => h.elim
  | d :: ds,vs,h => by
    unfold Zen at h
    split at h
    · rename_i he; cases he
    · rename_i he; cases he
      obtain ⟨⟨first,cap,rfl,h1,h2⟩,h3⟩ := h
      exact ⟨⟨first,cap,rfl,h1.mono hl,h2.mono hl⟩,Zen.mono hl h3⟩
    · exact h.elim
structure ARel (g : G) (a : AAct) (A : Act) (N : Nat) : Prop where
  tmp : ∀ t,VRel g (a.eval (.t t)) (A.tmps.getD t undef)
  size : N ≤ A.tmps.size
  dfr : Zen g a.defers A.defers
theorem ARel.mono {g g' : G} (hl : g.Le g') {a : AAct} {A : Act} {N : Nat} (h : ARel g a A N) : ARel g' a A N := ⟨fun t => (h.tmp t).mono hl,h.size,h.dfr.mono hl⟩
theorem ARel.orel {g : G} {a : AAct} {A : Act} {N : Nat} {glob : Nat → Option (List D)} (h : ARel g a A N) (hg : ∀ i cs,glob i = some cs → VRel g (.ep cs) (.pointer (some ⟨i,0,none⟩))) : We g a A.eval glob := by
  intro x y hx
  cases x with
  | tmp t => simp [ZC] at hx; subst hx; exact h.tmp t
  | const v => simp [ZC] at hx; subst hx; exact .of g v
  | global i =>
    simp only [ZC] at hx
    split at hx
    · rename_i cs hc; cases hx; exact hg i cs hc
    · cases hx
  | func f => simp [ZC] at hx; subst hx; exact .v _
theorem ARel.put {g : G} {a : AAct} {A : Act} {N : Nat} (h : ARel g a A N) {dst : Option Nat} (hd : Zfx N dst = true) {d : D} {v : Value} (hv : VRel g d v) : ARel g (a.put dst d) (A.put dst v) N := by
  cases dst with
  | none => exact h
  | some t =>
    have ht : t < N := by
      have : t + 1 ≤ N := by simpa [Zfx,Nat.blt] using hd
      omega
    refine ⟨fun s => ?_,by simpa [Act.put] using h.size,h.dfr⟩
    have hs := h.tmp s
    simp only [AAct.put,AAct.eval,Tr.get_set,Act.put] at hs ⊢
    by_cases e : s = t
    · subst e
      have hlt : s < A.tmps.size := Nat.lt_of_lt_of_le ht h.size
      simp [hlt]; exact hv
    · simp only [e,if_false]
      have : (A.tmps.setIfInBounds t v).getD s undef = A.tmps.getD s undef := by
        simp [Array.getElem?_setIfInBounds_ne (Ne.symm e)]
      rw [this]; exact hs
def Exit.ofA : AExit → Exit
  | .normal => .normal
  | .exit id => .exit id
  | .ret => .ret
def AEnd.ends (g : G) (r : AEnd) (x : Exit) : Prop :=
  match r with
  | .exit e => x = Exit.ofA e
  | .panic d => ∃ v,x = .panic [{ v,recovered := false }] ∧ VRel g d v
def Z8k (p : Bool) (v : Value) : Ending :=
  match p with
  | false => .returned v
  | true => .panicked [{ v,recovered := false }]
def WE (P : Program) (call : Call) (glob : Nat → Option (List D)) : Prop := ∀ f ds h p d h',call f ds h = .mk p d h' → ∀ top g w args,h'.next ≤ top → R P top g h w → (∀ i cs,glob i = some cs → VRel g (.ep cs) (.pointer (some ⟨i,0,none⟩))) → Zk g ds args.toList →
  ((callFunc f args).run P w = .ok (.enter f args) w ∧ Calls P f args w fun e w' => ∃ v,e = Z8k p v ∧ ZB P top g h w d h' v w') ∨
  (p = false ∧ ∃ v w',(callFunc f args).run P w = .ok (.value v) w' ∧ ZB P top g h w d h' v w')
section
variable {P : Program} {top : Nat} {glob : Nat → Option (List D)} {g : G} {h h' : H} {w : World} {a : AAct} {A : Act} {N : Nat} {o : Oper} {d : D}
theorem Z5s {f : Opd} {args : List Opd} (hc : Zp4 P glob o = some (.call f args)) : ∃ cl fo,o.op = .call cl ∧ cl.callee = .value fo ∧ ZC glob fo = some f ∧ Zg9 glob cl.args.toList = some args := by
  unfold Zp4 at hc
  split at hc
  case h_28 cl ho =>
    split at hc
    · rename_i fo hcl
      split at hc
      · rename_i h1 h2; cases hc; exact ⟨cl,fo,ho,hcl,h1,h2⟩
      · cases hc
    all_goals (exfalso; repeat' (first | (cases hc; done) | (obtain ⟨_,_,hh⟩ := map_some hc; cases hh; done) | split at hc | (unfold cond at hc; split at hc)))
  all_goals (exfalso; repeat' (first | (cases hc; done) | (obtain ⟨_,_,hh⟩ := map_some hc; cases hh; done) | split at hc | (unfold cond at hc; split at hc)))
theorem Z85 {f : Opd} (hc : Zp4 P glob o = some (.dfr f)) : ∃ cl fo,o.op = .defer cl ∧ cl.callee = .value fo ∧ cl.args = #[] ∧ ZC glob fo = some f := by
  unfold Zp4 at hc
  split at hc
  all_goals first
    | (rename_i cl ho
       split at hc
       · rename_i fo hcal harg
         obtain ⟨_,hh,he⟩ := map_some hc
         cases he
         exact ⟨cl,fo,ho,hcal,by simpa using harg,hh⟩
       · cases hc
       done)
    | (exfalso; repeat' (first | (cases hc; done) | (obtain ⟨_,_,hh⟩ := map_some hc; cases hh; done) | split at hc | (unfold cond at hc; split at hc)))
theorem Z1p {x : Opd} (hc : Zp4 P glob o = some (.panic x)) : ∃ y,o.op = .panic y ∧ ZC glob y = some x := by
  unfold Zp4 at hc
  split at hc
  all_goals first
    | (rename_i y ho
       obtain ⟨_,hh,he⟩ := map_some hc
       cases he
       exact ⟨y,ho,hh⟩
       done)
    | (exfalso; repeat' (first | (cases hc; done) | (obtain ⟨_,_,hh⟩ := map_some hc; cases hh; done) | split at hc | (unfold cond at hc; split at hc)))
theorem Zxu {c : COp} {E : Env} {call : Call} {a : AAct} {h h' : H} {d : D} (hrun : Vh c E call a h = .panic d h') : (∃ f args,c = .call f args) ∨ ∃ x,c = .panic x := by
  cases c
  case call f args => exact .inl ⟨f,args,rfl⟩
  case panic x => exact .inr ⟨x,rfl⟩
  case app e size bytes s x =>
    simp only [Vh,Zgi] at hrun
    unfold Vb at hrun
    simp only [Bool.cond_eq_ite] at hrun
    repeat' split at hrun
    all_goals cases hrun
  all_goals
    simp only [Vh,Zsc,Ziz,Zge,Zdo,Zj6,Za0,U6,Zhk,Zhj,Zpx,Xs,Zmh,Zey,Zgh,Zd4,Zbw,Zgg,U5,Zi0,Zdn,Za3,Zb7,Za1,Zb8,Zi1,Zd6,Zfc,Zfb,Za5,Za4,U7,Za2,Zb9,Zex,Zdp,UR,Zew,Zfd,Zca,Zd5,Zfa,Zlh,Zse,Zob,Zuj,Zbl,Bool.cond_eq_ite] at hrun
    repeat' split at hrun
    all_goals cases hrun
theorem Zkc {c : COp} {p : Bool} (hc : Zp4 P glob o = some c) (hA : ARel g a A N) (hg : ∀ i cs,glob i = some cs → VRel g (.ep cs) (.pointer (some ⟨i,0,none⟩))) (hr : R P top g h w) (htop : h'.next ≤ top) {call : Call} (hcall : WE P call glob) (E : Env) (hE : E.P = P)
    (hrun : Vh c E call a h = .mk p d h') {next : Act → World → Prop} {Q : Exit → Act → World → Prop}
    (hn : p = false → ∀ v w' g',Ext g h w g' h' w' → R P top g' h' w' → VRel g' d v → next (A.put o.dst v) w')
    (hp : p = true → ∀ v w' g',Ext g h w g' h' w' → R P top g' h' w' → VRel g' d v → Q (.panic [{ v,recovered := false }]) A w') : o.wp P A w next Q := by
  have he := hA.orel hg
  by_cases hca : ∃ f args,c = .call f args
  · obtain ⟨f,args,rfl⟩ := hca
    obtain ⟨cl,fo,ho,hcl,hf,hargs⟩ := Z5s hc
    have h1 := he fo f hf
    have h2 := he.evals hargs
    have hrun' : Zh5 call (a.eval f) (a.evals args) h = .mk p d h' := hrun
    have fin : ∀ (fn : Nat) (ds : List D) (first captured : Array Value),A.eval fo = .func (.func fn) first captured → call fn ds h = .mk p d h' → Zk g ds (first ++ cl.args.map A.eval ++ captured).toList → o.wp P A w next Q := by
      intro fn ds first captured hfo hcl2 hrel
      have hex : (execOp A.eval o).run P w = (callFunc fn (first ++ cl.args.map A.eval ++ captured)).run P w := by
        simp only [execOp,ho,resolve,hcl,hfo,Deferred.ofValue,Sem.run_bind,Sem.run_pure,Result.andThen_ok,invoke]
      unfold Oper.wp
      rw [hex]
      rcases hcall fn ds h p d h' hcl2 top g w _ htop hr hg hrel with ⟨he1,he2⟩ | ⟨hpf,v,w',hv,g',hE',hR',hV'⟩
      · rw [he1]
        refine he2.mono ?_
        rintro e w' ⟨v,rfl,g',hE',hR',hV'⟩
        cases p with
        | false => exact hn rfl v w' g' hE' hR' hV'
        | true => exact hp rfl v w' g' hE' hR' hV'
      · rw [hv]; exact hn hpf v w' g' hE' hR' hV'
    unfold Zh5 at hrun'
    split at hrun'
    · rename_i fn first captured hq
      rw [hq] at h1
      generalize hv : A.eval fo = v at h1
      cases h1
      refine fin fn _ first captured hv hrun' ?_
      simp only [Array.toList_append,Array.toList_map]
      refine ((?_ : Zk g _ _).append h2).append ?_
      · exact ⟨by simp,fun i d v hd hu => by rw [List.getElem?_map,hu] at hd; cases hd; exact .of g v⟩
      · exact ⟨by simp,fun i d v hd hu => by rw [List.getElem?_map,hu] at hd; cases hd; exact .of g v⟩
    · rename_i fn first captured hq
      rw [hq] at h1
      generalize hv : A.eval fo = v at h1
      cases h1 with
      | func l1 p1 l2 p2 =>
        rename_i cs us
        refine fin fn _ cs us hv hrun' ?_
        simp only [Array.toList_append,Array.toList_map]
        refine ((?_ : Zk g _ _).append h2).append ?_
        · exact ⟨by simpa using l1,fun i d v hd hu => p1 i d v hd (by simpa using hu)⟩
        · exact ⟨by simpa using l2,fun i d v hd hu => p2 i d v hd (by simpa using hu)⟩
    · cases p <;> cases hrun'
  · cases p with
    | false =>
      obtain ⟨v,w',hdo,g',hE',hR',hV'⟩ := op_sim hc (fun f args e => hca ⟨f,args,e⟩) he hr htop call E hE hrun
      unfold Oper.wp
      rcases hdo with hd | ⟨hd,rfl⟩
      · rw [hd]; exact hn rfl v w' g' hE' hR' hV'
      · rw [hd]; exact hn rfl undef w' g' hE' hR' hV'
    | true =>
      rcases Zxu hrun with hx | ⟨x,rfl⟩
      · exact absurd hx hca
      · obtain ⟨y,ho,hy⟩ := Z1p hc
        have h1 := he y x hy
        have hrun' : US x E call a h = .panic d h' := hrun
        unfold US at hrun'
        split at hrun'
        · rename_i t d0 hq
          cases hrun'
          rw [hq] at h1
          generalize hv : A.eval y = v at h1
          cases h1 with
          | iface hh =>
            rename_i x0
            unfold Oper.wp
            have hex : (execOp A.eval o).run P w = .halt (.panic (.iface t x0)) w := by
              simp only [execOp,ho,hv,Instr.panic,Sem.run_bind]
              rfl
            rw [hex]
            exact hp rfl (.iface t x0) w g (.refl g h w) hr (.iface hh)
        · cases hrun'
theorem Zcb {all : List Oper} {ops : Array Oper} (hall : all = ops.toList) {gd : Option (Nat × Bool)} {c : COp} (hgd : Zjy all o = some gd) (hA : ARel g a A N) : Region.wanted o (yielded ops A.tmps) = Zn a ⟨o.dst,gd,c⟩ := by
  subst hall
  unfold Zjy at hgd
  unfold Region.wanted Zn
  cases hg : o.guard with
  | none => rw [hg] at hgd; cases hgd; rfl
  | some p =>
    obtain ⟨j,want⟩ := p
    rw [hg] at hgd
    simp only at hgd
    split at hgd
    · rename_i q hq
      split at hgd
      · rename_i t ht
        cases hgd
        have hq' : ops[j]? = some q := by simpa using hq
        have hs := hA.tmp t
        simp only [AAct.eval] at hs
        simp only [yielded,hq',Option.bind_some,ht]
        cases hget : a.tmps.get t with
        | none =>
          rw [hget] at hs
          simp only
          have hud : ∀ v,VRel g ZD v → v = undef := by
            intro v hv
            cases hv with
            | tup hl hp =>
              rename_i cs
              have h0 : cs = #[] := by simpa using hl.symm
              rw [h0]; rfl
          have this := hud _ hs
          cases hc : A.tmps[t]? with
          | none => rfl
          | some u =>
            have : u = undef := by simpa [hc] using this
            subst this; rfl
        | some dd =>
          rw [hget] at hs
          simp only at hs
          cases hc : A.tmps[t]? with
          | none =>
            have : A.tmps.getD t undef = undef := by simp [hc]
            rw [this] at hs
            cases hs <;> (cases want <;> rfl)
          | some u =>
            have : A.tmps.getD t undef = u := by simp [hc]
            rw [this] at hs
            cases hs
            case v => cases u <;> first | (cases want <;> rfl) | (rename_i b; cases b <;> cases want <;> rfl)
            all_goals (cases want <;> rfl)
      · cases hgd
    · cases hgd
theorem X.mk_out {e : AExit} {a a' : AAct} {h h' : H} {r : AEnd} (hx : X.out e a h = X.mk r a' h') : r = .exit e ∧ a' = a ∧ h' = h := by
  cases r with
  | exit e' => cases hx; exact ⟨rfl,rfl,rfl⟩
  | panic d => cases hx
theorem X.mk_panic {d : D} {a a' : AAct} {h h' : H} {r : AEnd} (hx : X.panic d a h = X.mk r a' h') : r = .panic d ∧ a' = a ∧ h' = h := by
  cases r with
  | exit e' => cases hx
  | panic d' => cases hx; exact ⟨rfl,rfl,rfl⟩
theorem X.mk_fail {w : String} {a' : AAct} {h' : H} {r : AEnd} (hx : X.fail w = X.mk r a' h') : False := by
  cases r <;> cases hx
theorem ARel.push {x y : List D} {f : Nat} {first cap : Array Value} (h : ARel g a A N) (h1 : Zk g x first.toList) (h2 : Zk g y cap.toList) : ARel g { a with defers := .func (.func f) x y :: a.defers } { A with defers := { target := .fn (.func f) cap,args := first } :: A.defers } N :=
  ⟨h.tmp,h.size,⟨first,cap,rfl,h1,h2⟩,h.dfr⟩
theorem Zm7 {all : List Oper} {ops : Array Oper} (hall : all = ops.toList) {call : Call} (hcall : WE P call glob) (hcn : ZX call) (E : Env) (hE : E.P = P) {Q : Exit → Act → World → Prop} :
    ∀ (l : List Oper) {cl : List CO} {g : G} {h h' : H} {w : World} {a a' : AAct} {A : Act} {r : AEnd},Zhc P glob N all l = some cl → ARel g a A N → (∀ i cs,glob i = some cs → VRel g (.ep cs) (.pointer (some ⟨i,0,none⟩))) → R P top g h w → h'.next ≤ top →
      ZP E call cl a h = .mk r a' h' → (∀ w' g' A' x,Ext g h w g' h' w' → R P top g' h' w' → ARel g' a' A' N → r.ends g' x → Q x A' w') → wpList P ops Q l A w
  | [],cl,g,h,h',w,a,a',A,r,hc,hA,hg,hr,htop,hrun,hQ => by
    simp [Zhc] at hc; subst hc
    simp only [ZP] at hrun
    obtain ⟨rfl,rfl,rfl⟩ := X.mk_out hrun
    exact hQ w g A .normal (.refl g h' w) hr hA rfl
  | o :: l,cl,g,h,h',w,a,a',A,r,hc,hA,hg,hr,htop,hrun,hQ => by
    simp only [Zhc] at hc
    split at hc
    · rename_i gd c cr h1 h2 h3
      cases hd : Zfx N o.dst with
      | false => rw [hd] at hc; cases hc
      | true =>
        rw [hd] at hc
        cases hc
        have hw := Zcb hall (c := c) h1 hA
        simp only [ZP] at hrun
        simp only [wpList]
        cases hwa : Zn a ⟨o.dst,gd,c⟩ with
        | false =>
          rw [hwa] at hrun hw
          simp only [cond_false] at hrun
          rw [hw,if_neg (by simp)]
          exact Zm7 hall hcall hcn E hE l h3 (hA.put hd (.undef g)) hg hr htop hrun hQ
        | true =>
          rw [hwa] at hrun hw
          simp only [cond_true] at hrun
          rw [hw,if_pos rfl]
          refine .inl ?_
          by_cases hcd : ∃ f,c = .dfr f
          · obtain ⟨f,rfl⟩ := hcd
            obtain ⟨clx,fo,ho,hcal,harg,hfo⟩ := Z85 h2
            simp only at hrun
            split at hrun
            · rename_i fn x y hq
              have hv := hA.orel hg fo f hfo
              rw [hq] at hv
              generalize hve : A.eval fo = v at hv
              cases hv with
              | func l1 p1 l2 p2 =>
                rename_i cs us
                unfold Oper.wp
                have hex : (execOp A.eval o).run P w = .ok (.defer { target := .fn (.func fn) us,args := cs }) w := by
                  simp [execOp,ho,resolve,hcal,harg,hve,Deferred.ofValue,Sem.run_pure]
                rw [hex]
                have hA2 : ARel g { a with defers := .func (.func fn) x y :: a.defers } { A with defers := { target := .fn (.func fn) us,args := cs } :: A.defers } N :=
                  hA.push ⟨by simpa using l1,fun i d v hd hu => p1 i d v hd (by simpa using hu)⟩ ⟨by simpa using l2,fun i d v hd hu => p2 i d v hd (by simpa using hu)⟩
                exact Zm7 hall hcall hcn E hE l h3 (hA2.put hd (.undef g)) hg hr htop hrun hQ
            · exact (X.mk_fail hrun).elim
          · have hrun2 : (match UO E call a c h with
              | .ok d h => ZP E call cr (a.put o.dst d) h
              | .panic d h => .panic d a h
              | .fail w => .fail w) = X.mk r a' h' := by
              cases c <;> first | exact hrun | exact absurd ⟨_,rfl⟩ hcd
            split at hrun2
            · rename_i d2 h2' hcrun
              have hgr := Zac (E := E) hcn cr (a.put o.dst d2) h2'
              rw [hrun2] at hgr
              refine Zkc (p := false) h2 hA hg hr (Nat.le_trans hgr.mk.next htop) hcall E hE hcrun (fun _ v w' g' hE' hR' hV' => ?_) (fun hh => by cases hh)
              have hg' : ∀ i cs,glob i = some cs → VRel g' (.ep cs) (.pointer (some ⟨i,0,none⟩)) := fun i cs hh => (hg i cs hh).mono hE'.le
              refine Zm7 hall hcall hcn E hE l h3 ((hA.mono hE'.le).put hd hV') hg' hR' htop hrun2 fun w'' g'' A'' x hE'' hR'' hA'' hx => ?_
              exact hQ w'' g'' A'' x (Ext.trans hr hR' hE' hE'') hR'' hA'' hx
            · rename_i d2 h2' hcrun
              obtain ⟨rfl,rfl,rfl⟩ := X.mk_panic hrun2
              refine Zkc (p := true) h2 hA hg hr htop hcall E hE hcrun (fun hh => by cases hh) (fun _ v w' g' hE' hR' hV' => ?_)
              exact hQ w' g' A _ hE' hR' (hA.mono hE'.le) ⟨v,rfl,hV'⟩
            · exact (X.mk_fail hrun2).elim
    · cases hc
end
end
end Go.Abs
namespace Go.Abs
noncomputable section
def XB (g : G) (glob : Nat → Option (List D)) : Prop := ∀ i cs,glob i = some cs → VRel g (.ep cs) (.pointer (some ⟨i,0,none⟩))
theorem XB.mono {g g' : G} (hl : g.Le g') {glob : Nat → Option (List D)} (h : XB g glob) : XB g' glob := fun i cs hh => (h i cs hh).mono hl
def PRel (g : G) (a : AAct) (A : Act) (N : Nat) : Prop := ARel g a A N ∨ (a.defers = [] ∧ A.defers = [])
def AEnd.act (r : AEnd) (g : G) (a : AAct) (A : Act) (N : Nat) : Prop :=
  match r with
  | .exit _ => ARel g a A N
  | .panic _ => PRel g a A N
theorem AEnd.of {r : AEnd} {g : G} {a : AAct} {A : Act} {N : Nat} (h : ARel g a A N) : r.act g a A N := by
  cases r with
  | exit e => exact h
  | panic d => exact .inl h
def Z59 (P : Program) (glob : Nat → Option (List D)) (N : Nat) (c : Code) (a : AAct) (h : H) (r : AEnd) (a' : AAct) (h' : H) : Prop :=
  ∀ (top : Nat) (g : G) (w : World) (A : Act) (Q : Exit → Act → World → Prop),h'.next ≤ top → R P top g h w → ARel g a A N → XB g glob →
    (∀ w' g' A' x,Ext g h w g' h' w' → R P top g' h' w' → r.act g' a' A' N → r.ends g' x → Q x A' w') → c.wp P Q A w
def Zzw (P : Program) (glob : Nat → Option (List D)) (N : Nat) (E : Env) : Prop := ∀ (call : Call),WE P call glob → ZX call → ∀ (id : Nat) (ops ops' : Array Oper) (l : List CO) (a : AAct) (h : H) (r : AEnd) (a' : AAct) (h' : H),
  (ops' = ops ∨ ∃ pm iv,Wf pm iv ops.size = true ∧ ops' = Zfp pm iv ops) → Zhc P glob N ops'.toList ops'.toList = some l → Zei ops'.toList l (Zr ops') = true → Yk E call 0 [] (Zr ops') l a h = .mk r a' h' → Z59 P glob N (.region id ops true) a h r a' h'
def Ztf (P : Program) (glob : Nat → Option (List D)) (N : Nat) (E : Env) (back : Option (Bool × Nat × List Nat)) : Prop := ∀ (call : Call),WE P call glob → ZX call → ∀ (f : Operand) (ps : Array Tmp) (assign body : Code) (n : Nat) (cc : CC) (a : AAct) (h : H) (r : AEnd) (a' : AAct) (h' : H),
  ZJ P glob N back (.rangeFunc f ps assign body) = some cc → (∀ c cc' a h r a' h',ZJ P glob N back c = some cc' → Zc E call n cc' a h = .mk r a' h' → Z59 P glob N c a h r a' h') →
  Zc E call (n + 1) cc a h = .mk r a' h' → Z59 P glob N (.rangeFunc f ps assign body) a h r a' h'
theorem Zku {P : Program} {glob : Nat → Option (List D)} {N : Nat} {E : Env} : Ztf P glob N E none := by
  intro call _ _ f ps assign body n cc a h r a' h' hc
  exfalso
  simp only [ZJ] at hc
  repeat' (first | (cases hc; done) | split at hc)
section
variable {P : Program} {glob : Nat → Option (List D)} {N : Nat} {E : Env} {back : Option (Bool × Nat × List Nat)}
theorem Z4d {call : Call} (hcn : ZX call) {c : Code} {cc : CC} (n : Nat) (hS : ∀ m,m ≤ n → ∀ a h r a' h',Zc E call m cc a h = .mk r a' h' → Z59 P glob N c a h r a' h') :
    ∀ m,m ≤ n + 1 → ∀ a h r a' h',Zc E call m (.loop cc) a h = .mk r a' h' → ∀ (top : Nat) (g : G) (w : World) (A : Act) (Q : Exit → Act → World → Prop),h'.next ≤ top → R P top g h w → ARel g a A N → XB g glob →
      (∀ w' g' A' x,Ext g h w g' h' w' → R P top g' h' w' → r.act g' a' A' N → r.ends g' x → Q x A' w') → Code.rounds P c Q m A w := by
  intro m
  induction m with
  | zero => intro _ a h r a' h' hrun; simp only [Zc] at hrun; exact (X.mk_fail hrun).elim
  | succ m ih =>
    intro hm a h r a' h' hrun top g w A Q htop hr hA hg hQ
    simp only [Zc] at hrun
    rw [rounds_succ]
    split at hrun
    · rename_i a1 h1 hb
      have hgr := Zae (E := E) hcn m (.loop cc) a1 h1
      rw [hrun] at hgr
      refine hS m (by omega) a h (.exit .normal) a1 h1 hb top g w A _ (Nat.le_trans hgr.mk.next htop) hr hA hg fun w' g' A' x hE' hR' hA' hx => ?_
      cases hx
      exact ih (by omega) a1 h1 r a' h' hrun top g' w' A' Q htop hR' hA' (hg.mono hE'.le) fun w'' g'' A'' x hE'' hR'' hA'' hx => hQ w'' g'' A'' x (Ext.trans hr hR' hE' hE'') hR'' hA'' hx
    · rename_i hne
      refine hS m (by omega) a h r a' h' hrun top g w A _ htop hr hA hg fun w' g' A' x hE' hR' hA' hx => ?_
      have := hQ w' g' A' x hE' hR' hA' hx
      cases r with
      | panic d => obtain ⟨v,rfl,hv⟩ := hx; exact this
      | exit e =>
        cases hx
        cases e with
        | normal => exact absurd hrun (hne _ _)
        | exit id => exact this
        | ret => exact this
theorem Zvz {call : Call} (hcall : WE P call glob) (hcn : ZX call) (hE : E.P = P) (hdraw : Zzw P glob N E) (hback : Ztf P glob N E back) :
    ∀ (n : Nat) (c : Code) (cc : CC) (a : AAct) (h : H) (r : AEnd) (a' : AAct) (h' : H),ZJ P glob N back c = some cc → Zc E call n cc a h = .mk r a' h' → Z59 P glob N c a h r a' h' := by
  intro n
  induction n using Nat.strongRecOn with
  | _ n ih =>
    intro c cc a h r a' h' hc hrun
    cases n with
    | zero => simp only [Zc] at hrun; exact (X.mk_fail hrun).elim
    | succ n =>
      have ihn := ih n (Nat.lt_succ_self n)
      cases c with
      | skip =>
        simp [ZJ] at hc; subst hc
        simp only [Zc] at hrun; obtain ⟨rfl,rfl,rfl⟩ := X.mk_out hrun
        exact fun top g w A Q htop hr hA hg hQ => wp_skip (hQ w g A .normal (.refl g _ w) hr hA rfl)
      | label l =>
        simp [ZJ] at hc; subst hc
        simp only [Zc] at hrun; obtain ⟨rfl,rfl,rfl⟩ := X.mk_out hrun
        exact fun top g w A Q htop hr hA hg hQ => wp_label (hQ w g A .normal (.refl g _ w) hr hA rfl)
      | region id ops draw =>
        cases draw with
        | false =>
          simp only [ZJ,cond_false] at hc
          split at hc
          · rename_i l hl
            cases hc
            simp only [Zc] at hrun
            exact fun top g w A Q htop hr hA hg hQ => wp_region_list (Zm7 rfl hcall hcn E hE ops.toList hl hA hg hr htop hrun fun w' g' A' x h1 h2 h3 h4 => hQ w' g' A' x h1 h2 (AEnd.of h3) h4)
          · cases hc
        | true =>
          simp only [ZJ,cond_true] at hc
          have one : ∀ ops' : Array Oper,Zgy P glob N ops' = some cc → ∃ l,Zhc P glob N ops'.toList ops'.toList = some l ∧ Zei ops'.toList l (Zr ops') = true ∧ Yk E call 0 [] (Zr ops') l a h = .mk r a' h' := by
            intro ops' h1
            unfold Zgy at h1
            split at h1
            · rename_i l hl
              cases hd : Zei ops'.toList l (Zr ops') with
              | false => simp only [hd,cond_false] at h1; cases h1
              | true =>
                simp only [hd,cond_true] at h1
                cases h1
                simp only [Zc] at hrun
                exact ⟨l,hl,hd,hrun⟩
            · cases h1
          unfold ctry at hc
          split at hc
          · rename_i c1 h1
            cases hc
            obtain ⟨l,hl,hd,hr⟩ := one ops h1
            exact hdraw call hcall hcn id ops ops l a h r a' h' (.inl rfl) hl hd hr
          · simp only at hc
            cases hp : Wf (Zkb P glob ops.toList) (Z4u (Zkb P glob ops.toList) ops.size) ops.size with
            | false => rw [hp] at hc; cases hc
            | true =>
              rw [hp,cond_true] at hc
              obtain ⟨l,hl,hd,hr⟩ := one _ hc
              exact hdraw call hcall hcn id ops _ l a h r a' h' (.inr ⟨_,_,hp,rfl⟩) hl hd hr
      | seq x y =>
        simp only [ZJ] at hc
        split at hc
        · rename_i cx cy hx hy
          cases hc
          simp only [Zc] at hrun
          split at hrun
          · rename_i a1 h1 hb
            intro top g w A Q htop hr hA hg hQ
            have hgr := Zae (E := E) hcn n cy a1 h1
            rw [hrun] at hgr
            refine wp_seq (ihn x cx a h (.exit .normal) a1 h1 hx hb top g w A _ (Nat.le_trans hgr.mk.next htop) hr hA hg fun w' g' A' xx hE' hR' hA' hxx => ?_)
            cases hxx
            exact ihn y cy a1 h1 r a' h' hy hrun top g' w' A' Q htop hR' hA' (hg.mono hE'.le) fun w'' g'' A'' xx hE'' hR'' hA'' hxx => hQ w'' g'' A'' xx (Ext.trans hr hR' hE' hE'') hR'' hA'' hxx
          · rename_i hne
            intro top g w A Q htop hr hA hg hQ
            refine wp_seq (ihn x cx a h r a' h' hx hrun top g w A _ htop hr hA hg fun w' g' A' xx hE' hR' hA' hxx => ?_)
            have := hQ w' g' A' xx hE' hR' hA' hxx
            cases r with
            | panic d => obtain ⟨v,rfl,hv⟩ := hxx; exact this
            | exit e =>
              cases hxx
              cases e with
              | normal => exact absurd hrun (hne _ _)
              | exit id => exact this
              | ret => exact this
        · cases hc
      | cond k x y =>
        simp only [ZJ] at hc
        split at hc
        · rename_i ck cx cy hk hx hy
          cases hc
          simp only [Zc] at hrun
          split at hrun
          · rename_i b hb
            intro top g w A Q htop hr hA hg hQ
            have h1 := hA.orel hg k ck hk
            rw [hb] at h1
            have hkv : A.eval k = .bool b := by
              generalize hv : A.eval k = v at h1
              cases h1; rfl
            refine wp_cond hkv ?_
            cases b with
            | true => exact ihn x cx a h r a' h' hx hrun top g w A Q htop hr hA hg hQ
            | false => exact ihn y cy a h r a' h' hy hrun top g w A Q htop hr hA hg hQ
          · exact (X.mk_fail hrun).elim
        · cases hc
      | block id x =>
        simp only [ZJ] at hc
        obtain ⟨cx,hx,rfl⟩ := map_some hc
        simp only [Zc] at hrun
        intro top g w A Q htop hr hA hg hQ
        refine wp_block ?_
        split at hrun
        · rename_i k a1 h1 hb
          cases hq : Nat.beq k id with
          | true =>
            rw [hq] at hrun
            obtain ⟨rfl,rfl,rfl⟩ := X.mk_out hrun
            refine ihn x cx a h (.exit (.exit k)) a' h' hx hb top g w A _ htop hr hA hg fun w' g' A' xx hE' hR' hA' hxx => ?_
            cases hxx
            have := Nat.eq_of_beq_eq_true hq
            show if k = id then _ else _
            rw [if_pos this]; exact hQ w' g' A' .normal hE' hR' hA' rfl
          | false =>
            rw [hq] at hrun
            obtain ⟨rfl,rfl,rfl⟩ := X.mk_out hrun
            refine ihn x cx a h (.exit (.exit k)) a' h' hx hb top g w A _ htop hr hA hg fun w' g' A' xx hE' hR' hA' hxx => ?_
            cases hxx
            have hne : k ≠ id := fun e0 => by subst e0; simp at hq
            show if k = id then _ else _
            rw [if_neg hne]; exact hQ w' g' A' _ hE' hR' hA' rfl
        · rename_i hne
          refine ihn x cx a h r a' h' hx hrun top g w A _ htop hr hA hg fun w' g' A' xx hE' hR' hA' hxx => ?_
          have := hQ w' g' A' xx hE' hR' hA' hxx
          cases r with
          | panic d => obtain ⟨v,rfl,hv⟩ := hxx; exact this
          | exit e =>
            cases hxx
            cases e with
            | normal => exact this
            | exit k => exact absurd hrun (hne _ _ _)
            | ret => exact this
      | loop x =>
        simp only [ZJ] at hc
        obtain ⟨cx,hx,rfl⟩ := map_some hc
        intro top g w A Q htop hr hA hg hQ
        exact wp_loop_rounds (n + 1) (Z4d hcn n (fun m hm a h r a' h' hh => ih m (by omega) x cx a h r a' h' hx hh) (n + 1) (Nat.le_refl _) a h r a' h' hrun top g w A Q htop hr hA hg hQ)
      | rangeFunc f ps assign body => exact hback call hcall hcn f ps assign body n cc a h r a' h' hc ihn hrun
      | exit id =>
        simp [ZJ] at hc; subst hc
        simp only [Zc] at hrun; obtain ⟨rfl,rfl,rfl⟩ := X.mk_out hrun
        exact fun top g w A Q htop hr hA hg hQ => wp_exit (hQ w g A _ (.refl g _ w) hr hA rfl)
      | scope x => simp [ZJ] at hc
      | goto l => simp [ZJ] at hc
      | ret =>
        simp [ZJ] at hc; subst hc
        simp only [Zc] at hrun; obtain ⟨rfl,rfl,rfl⟩ := X.mk_out hrun
        exact fun top g w A Q htop hr hA hg hQ => wp_ret (hQ w g A _ (.refl g _ w) hr hA rfl)
      | refuse why =>
        simp [ZJ] at hc; subst hc
        simp only [Zc] at hrun; exact (X.mk_fail hrun).elim
end
end
end Go.Abs
