/- No name at or beyond the next one; none comes to hold what it did not. -/
import Derived.Test.YtgpdodcbkajfgaaGreatDoorNdRel
set_option linter.unusedVariables false
set_option linter.unusedSimpArgs false
namespace Go.Abs
def Dom (h : H) : Prop := ∀ l, h.next ≤ l → h.mem.get l = none
structure Grow (h h' : H) : Prop where
  next : h.next ≤ h'.next
  dom : Dom h → Dom h'
  old : ∀ l, l < h.next → h.mem.get l = none → h'.mem.get l = none
theorem Grow.refl (h : H) : Grow h h := ⟨Nat.le_refl _, id, fun _ _ k => k⟩
theorem Grow.trans {a b c : H} (h : Grow a b) (k : Grow b c) : Grow a c := ⟨Nat.le_trans h.next k.next, fun d => k.dom (h.dom d), fun l hl hn => k.old l (Nat.lt_of_lt_of_le hl h.next) (h.old l hl hn)⟩
theorem Grow.put {h : H} {l : Nat} {o o' : AObj} (hl : h.mem.get l = some o) : Grow h (h.put l o') := by
  refine ⟨Nat.le_refl _, fun d j hj => ?_, fun j hj hn => ?_⟩
  · have : j ≠ l := fun e => by subst e; rw [d j hj] at hl; cases hl
    simp only [H.put, Tr.get_set, this, if_false]; exact d j hj
  · have : j ≠ l := fun e => by subst e; rw [hn] at hl; cases hl
    simp only [H.put, Tr.get_set, this, if_false]; exact hn
theorem Grow.new (h : H) (o : AObj) : Grow h (h.new o).2 := by
  refine ⟨Nat.le_succ _, fun d j hj => ?_, fun j hj hn => ?_⟩
  · have hj' : h.next + 1 ≤ j := hj
    have : j ≠ h.next := by omega
    simp only [H.new, Tr.get_set, this, if_false]; exact d j (by omega)
  · have : j ≠ h.next := by omega
    simp only [H.new, Tr.get_set, this, if_false]; exact hn
def Xm (h : H) : O D → Prop
  | .ok _ h' => Grow h h'
  | .panic _ h' => Grow h h'
  | .fail _ => True
def Xgrow (h : H) : X → Prop
  | .out _ _ h' => Grow h h'
  | .panic _ _ h' => Grow h h'
  | .fail _ => True
theorem Xm.mk {h h' : H} {p : Bool} {d : D} (k : Xm h (O.mk p d h')) : Grow h h' := by cases p <;> exact k
theorem Xgrow.mk {h h' : H} {r : AEnd} {a : AAct} (k : Xgrow h (X.mk r a h')) : Grow h h' := by cases r <;> exact k
theorem Xm.trans {a b : H} {o : O D} (h : Grow a b) (k : Xm b o) : Xm a o := by cases o <;> first | trivial | exact h.trans k
theorem Xgrow.trans {a b : H} {o : X} (h : Grow a b) (k : Xgrow b o) : Xgrow a o := by cases o <;> first | trivial | exact h.trans k
def Yn (call : Call) : Prop := ∀ f ds h, Xm h (call f ds h)
theorem storeD_dom {h h' : H} {n : Nat} {x y : D} (hs : storeD h n x y = some h') : Grow h h' := by
  unfold storeD at hs
  simp only [Bool.cond_eq_ite] at hs
  repeat' split at hs
  all_goals first | (cases hs; done) | (cases hs; exact Grow.put (by assumption))
theorem appendD_dom {h h' : H} {e size bytes : Nat} {s x d : D} (hs : XI h e size bytes s x = .ok d h') : Grow h h' := by
  unfold XI at hs
  simp only [Bool.cond_eq_ite] at hs
  repeat' split at hs
  all_goals first | (cases hs; done) | (cases hs; first | exact Grow.refl _ | exact Grow.new _ _ | exact Grow.put (by assumption))
set_option maxHeartbeats 1000000 in
theorem den_grow {c : COp} {E : Env} {call : Call} {a : AAct} {h : H} (hcn : Yn call) : Xm h (den c E call a h) := by
  cases c
  case call f args =>
    simp only [den, r_call, callD]
    split
    · exact hcn _ _ _
    · exact hcn _ _ _
    · trivial
  case app e size bytes s x =>
    simp only [den, YY]
    cases hr : XI h e size bytes (a.eval s) (a.eval x) with
    | ok d h' => exact appendD_dom hr
    | panic d h' =>
      exfalso
      unfold XI at hr
      simp only [Bool.cond_eq_ite] at hr
      repeat' split at hr
      all_goals cases hr
    | fail w => trivial
  case st n x y =>
    simp only [den, r_st]
    split
    · rename_i h2 hs; exact storeD_dom hs
    · trivial
  all_goals
    simp only [den, r_mv, r_mvs, r_pick, r_alloc, r_box, r_build, XW, r_ld1, r_ldN, ZJ, r_bin, r_un, r_cint, r_s2b, r_b2s, r_conv, YX, r_mkf, r_mkmap, XK, r_slstr, r_slsl, Wa, YC, Xf, r_ixa, r_ixs, r_idxa, XD, r_look, r_mset, Wc, r_msetV, r_apps, appendsD, r_tas, r_ext, Xo, Xl, r_lenm, r_copy, r_bi, Wb, r_dfr, r_rcv, ok?, Bool.cond_eq_ite]
    repeat' split
    all_goals first | trivial | exact Grow.refl _ | exact Grow.new _ _ | exact Grow.put (by assumption) | (dsimp only; split <;> first | trivial | exact Grow.new _ _ | exact Grow.put (by assumption))
theorem den_dom {c : COp} {E : Env} {call : Call} {a : AAct} {h h' : H} {d : D} (hcn : Yn call) (hrun : den c E call a h = .ok d h') : Grow h h' := by
  have := den_grow (c := c) (E := E) (a := a) (h := h) hcn
  rw [hrun] at this; exact this
theorem den_domP {c : COp} {E : Env} {call : Call} {a : AAct} {h h' : H} {d : D} (hcn : Yn call) (hrun : den c E call a h = .panic d h') : Grow h h' := by
  have := den_grow (c := c) (E := E) (a := a) (h := h) hcn
  rw [hrun] at this; exact this
theorem crunOps_dom {E : Env} {call : Call} (hcn : Yn call) : ∀ (l : List CO) (a : AAct) (h : H), Xgrow h (Yj E call l a h)
  | [], a, h => Grow.refl _
  | o :: l, a, h => by
    simp only [Yj, Bool.cond_eq_ite]
    split
    · split
      · split
        · exact crunOps_dom hcn l _ _
        · trivial
      · have h1 := den_grow (c := o.op) (E := E) (a := a) (h := h) hcn
        split
        · rename_i d h2 hc
          have hc' : den o.op E call a h = .ok d h2 := hc
          rw [hc'] at h1
          exact Xgrow.trans h1 (crunOps_dom hcn l _ _)
        · rename_i d h2 hc
          have hc' : den o.op E call a h = .panic d h2 := hc
          rw [hc'] at h1
          exact h1
        · trivial
    · exact crunOps_dom hcn l _ _
theorem cdraw_dom {E : Env} {call : Call} (hcn : Yn call) : ∀ (l : List CO) (i : Nat) (recs : List Rec) (Yg : List (List Nat)) (a : AAct) (h : H), Xgrow h (YI E call i recs Yg l a h)
  | [], i, recs, Yg, a, h => by simp only [YI]; exact Grow.refl _
  | o :: l, i, recs, [], a, h => by simp only [YI]; trivial
  | o :: l, i, recs, inc :: Yg, a, h => by
    simp only [YI, Bool.cond_eq_ite]
    split
    · split
      · rename_i d h2 hc
        have h1 := den_dom hcn hc
        split
        · split
          · split
            · exact Xgrow.trans h1 (cdraw_dom hcn l _ _ _ _ _)
            · trivial
          · trivial
        · split
          · split
            · exact Xgrow.trans h1 (cdraw_dom hcn l _ _ _ _ _)
            · trivial
          · exact Xgrow.trans h1 (cdraw_dom hcn l _ _ _ _ _)
      · rename_i d h2 hc
        split
        · exact den_domP hcn hc
        · trivial
      · trivial
    · exact cdraw_dom hcn l _ _ _ _ _
theorem aback_dom {run : AAct → H → X} (hrn : ∀ a h, Xgrow h (run a h)) {mk : Nat → D → AAct} {a : AAct} : ∀ (l : List (Nat × D)) (h : H), Xgrow h (aback run mk a l h)
  | [], h => by simp only [aback]; exact Grow.refl _
  | (i, d) :: l, h => by
    simp only [aback]
    have h1 := hrn (mk i d) h
    split
    · rename_i a1 h2 hb
      rw [hb] at h1
      exact Xgrow.trans h1 (aback_dom hrn l _)
    · rename_i e1 a1 h2 hne hb
      rw [hb] at h1; exact h1
    · rename_i hb; rw [hb] at h1; exact h1
    · trivial
theorem ccode_dom {E : Env} {call : Call} (hcn : Yn call) : ∀ (n : Nat) (c : CC) (a : AAct) (h : H), Xgrow h (ZI E call n c a h)
  | 0, c, a, h => by simp only [ZI]; trivial
  | n + 1, c, a, h => by
    have ih := ccode_dom (E := E) hcn n
    cases c <;> simp only [ZI, Bool.cond_eq_ite]
    case skip => exact Grow.refl _
    case ops l => exact crunOps_dom hcn l _ _
    case draw inc l => exact cdraw_dom hcn l _ _ _ _ _
    case seq x y =>
      have h1 := ih x a h
      split
      · rename_i a1 h2 hb; rw [hb] at h1; exact Xgrow.trans h1 (ih y _ _)
      · exact h1
    case cond c x y =>
      split
      · split
        · exact ih x _ _
        · exact ih y _ _
      · trivial
    case block id c =>
      have h1 := ih c a h
      split
      · rename_i k a1 h2 hb
        rw [hb] at h1
        split <;> exact h1
      · exact h1
    case loop c =>
      have h1 := ih c a h
      split
      · rename_i a1 h2 hb; rw [hb] at h1; exact Xgrow.trans h1 (ih (.loop c) _ _)
      · exact h1
    case exit id => exact Grow.refl _
    case ret => exact Grow.refl _
    case stop => trivial
    case back ag size gs f x y assign body =>
      split
      · split
        · split
          · split
            · refine aback_dom (fun a h => ?_) _ _
              have h1 := ih assign a h
              split
              · rename_i a1 h2 hb1; rw [hb1] at h1; exact Xgrow.trans h1 (ih body _ _)
              · exact h1
            · trivial
          · trivial
        · trivial
      · trivial
theorem cfin_grow {fn : CFn} {a : AAct} {h : H} : Xm h (YR fn a h) := by
  unfold YR
  split
  · exact Grow.refl _
  · trivial
theorem cdefer_grow {E : Env} {call : Call} (hcn : Yn call) {n : Nat} {df : D} {r : Option D} {h h' : H} (hd : cdefer E call n df r h = some h') : Grow h h' := by
  unfold cdefer at hd
  split at hd
  · split at hd
    · rename_i p _
      have h1 : ∀ a, Xgrow h (ZI E call n p.2 a h) := fun a => ccode_dom hcn n p.2 a h
      split at hd
      · rename_i e b h2 hb
        have h3 : Xgrow h (.out e b h2) := hb ▸ h1 _
        split at hd
        · cases hd
        · split at hd
          · cases hd; exact h3
          · cases hd
      · cases hd
    · cases hd
  · cases hd
theorem cleave_grow {E : Env} {call : Call} (hcn : Yn call) {n : Nat} {fn : CFn} {r : Option D} {a : AAct} {h : H} : Xm h (Xr E call n fn r a h) := by
  unfold Xr
  split
  · split
    · exact cfin_grow
    · exact Grow.refl _
  · split
    · rename_i h2 hd; exact Xm.trans (cdefer_grow hcn hd) cfin_grow
    · trivial
  · trivial
theorem ccall_dom {E : Env} (hlib : ∀ f lf, E.lib f = some lf → ∀ ds h, Xm h (lf ds h)) : ∀ n, Yn (ccall E n)
  | 0 => fun f ds h => by simp only [ccall]; trivial
  | n + 1 => fun f ds h => by
    simp only [ccall]
    split
    · rename_i lf hl; exact hlib f lf hl _ _
    · split
      · trivial
      · rename_i fn _
        have h1 := ccode_dom (E := E) (ccall_dom hlib n) n fn.body (start ds none) h
        split
        · rename_i e a1 h2 hc
          rw [hc] at h1
          split
          · trivial
          · exact Xm.trans h1 (cleave_grow (ccall_dom hlib n))
        · rename_i d a1 h2 hc
          rw [hc] at h1
          exact Xm.trans h1 (cleave_grow (ccall_dom hlib n))
        · trivial
end Go.Abs
