/- No name at or beyond the next one; none comes to hold what it did not. -/
import Derived.Test.YtlkjicigmhhjbaaGreatDoorNdRel
set_option linter.unusedVariables false
set_option linter.unusedSimpArgs false
namespace Go.Abs
noncomputable section
def Zss (h : H) : Prop := ∀ l, h.next ≤ l → h.mem.get l = none
structure Grow (h h' : H) : Prop where
  next : h.next ≤ h'.next
  dom : Zss h → Zss h'
  old : ∀ l, l < h.next → h.mem.get l = none → h'.mem.get l = none
theorem Grow.refl (h : H) : Grow h h := ⟨Nat.le_refl _, id, fun _ _ k => k⟩
theorem Grow.trans {a b c : H} (h : Grow a b) (k : Grow b c) : Grow a c := ⟨Nat.le_trans h.next k.next, fun d => k.dom (h.dom d), fun l hl hn => k.old l (Nat.lt_of_lt_of_le hl h.next) (h.old l hl hn)⟩
theorem Grow.put {h : H} {l : Nat} {o o' : AObj} (hl : h.mem.get l = some o) : Grow h (h.put l o') := by
  refine ⟨Nat.le_refl _, fun d j hj => ?_, fun j hj hn => ?_⟩
  · have : j ≠ l := fun e => by subst e; rw [d j hj] at hl; cases hl
    simp only [H.put, Tr.get_set, this, if_false]; exact d j hj
  · have : j ≠ l := fun e => by subst e; rw [hn] at hl; cases hl
    simp only [H.put, Tr.get_set, this, if_false]; exact hn
theorem Grow.new (h : H) (o : AObj) : Grow h (h.new o).2 := by
  refine ⟨Nat.le_succ _, fun d j hj => ?_, fun j hj hn => ?_⟩
  · have hj' : h.next + 1 ≤ j := hj
    have : j ≠ h.next := by omega
    simp only [H.new, Tr.get_set, this, if_false]; exact d j (by omega)
  · have : j ≠ h.next := by omega
    simp only [H.new, Tr.get_set, this, if_false]; exact hn
def XZ (h : H) : O D → Prop
  | .ok _ h' => Grow h h'
  | .panic _ h' => Grow h h'
  | .fail _ => True
def VG (h : H) : X → Prop
  | .out _ _ h' => Grow h h'
  | .panic _ _ h' => Grow h h'
  | .fail _ => True
theorem XZ.mk {h h' : H} {p : Bool} {d : D} (k : XZ h (O.mk p d h')) : Grow h h' := by cases p <;> exact k
theorem VG.mk {h h' : H} {r : AEnd} {a : AAct} (k : VG h (X.mk r a h')) : Grow h h' := by cases r <;> exact k
theorem XZ.trans {a b : H} {o : O D} (h : Grow a b) (k : XZ b o) : XZ a o := by cases o <;> first | trivial | exact h.trans k
theorem VG.trans {a b : H} {o : X} (h : Grow a b) (k : VG b o) : VG a o := by cases o <;> first | trivial | exact h.trans k
def YF (call : Call) : Prop := ∀ f ds h, XZ h (call f ds h)
theorem Zxz {h h' : H} {n : Nat} {x y : D} (hs : Zix h n x y = some h') : Grow h h' := by
  unfold Zix at hs
  simp only [Bool.cond_eq_ite] at hs
  repeat' split at hs
  all_goals first | (cases hs; done) | (cases hs; exact Grow.put (by assumption))
theorem Zw7 {h h' : H} {e size bytes : Nat} {s x d : D} (hs : Wl h e size bytes s x = .ok d h') : Grow h h' := by
  unfold Wl at hs
  simp only [Bool.cond_eq_ite] at hs
  repeat' split at hs
  all_goals first | (cases hs; done) | (cases hs; first | exact Grow.refl _ | exact Grow.new _ _ | exact Grow.put (by assumption))
set_option maxHeartbeats 1000000 in
theorem Zp9 {c : COp} {E : Env} {call : Call} {a : AAct} {h : H} (hcn : YF call) : XZ h (Ww c E call a h) := by
  cases c
  case call f args =>
    simp only [Ww, Zlp, Zh6]
    split
    · exact hcn _ _ _
    · exact hcn _ _ _
    · trivial
  case app e size bytes s x =>
    simp only [Ww, Zgi]
    cases hr : Wl h e size bytes (a.eval s) (a.eval x) with
    | ok d h' => exact Zw7 hr
    | panic d h' =>
      exfalso
      unfold Wl at hr
      simp only [Bool.cond_eq_ite] at hr
      repeat' split at hr
      all_goals cases hr
    | fail w => trivial
  case st n x y =>
    simp only [Ww, Zs5]
    split
    · rename_i h2 hs; exact Zxz hs
    · trivial
  all_goals
    simp only [Ww, Zvl, Zmk, Zge, Zcy, Zmn, UU, Vx, Zhu, Zht, XJ, Zpc, Zdr, Zgh, Zet, Zbr, Zgg, XF, Zml, Zcx, UW, Za6, UV, VW, Zke, Zdg, Zev, Zeu, UZ, UY, UX, Zcz, VY, UT, Zc0, Zcm, Zmj, Zew, Za7, Zdf, Zes, Zpb, Zvr, US, Zpa, Zvk, Uu, Bool.cond_eq_ite]
    repeat' split
    all_goals first | trivial | exact Grow.refl _ | exact Grow.new _ _ | exact Grow.put (by assumption) | (dsimp only; split <;> first | trivial | exact Grow.new _ _ | exact Grow.put (by assumption))
theorem Znq {c : COp} {E : Env} {call : Call} {a : AAct} {h h' : H} {d : D} (hcn : YF call) (hrun : Ww c E call a h = .ok d h') : Grow h h' := by
  have := Zp9 (c := c) (E := E) (a := a) (h := h) hcn
  rw [hrun] at this; exact this
theorem Zwz {c : COp} {E : Env} {call : Call} {a : AAct} {h h' : H} {d : D} (hcn : YF call) (hrun : Ww c E call a h = .panic d h') : Grow h h' := by
  have := Zp9 (c := c) (E := E) (a := a) (h := h) hcn
  rw [hrun] at this; exact this
theorem VB {E : Env} {call : Call} (hcn : YF call) : ∀ (l : List CO) (a : AAct) (h : H), VG h (YQ E call l a h)
  | [], a, h => Grow.refl _
  | o :: l, a, h => by
    simp only [YQ, Bool.cond_eq_ite]
    split
    · split
      · split
        · exact VB hcn l _ _
        · trivial
      · have h1 := Zp9 (c := o.op) (E := E) (a := a) (h := h) hcn
        split
        · rename_i d h2 hc
          have hc' : Ww o.op E call a h = .ok d h2 := hc
          rw [hc'] at h1
          exact VG.trans h1 (VB hcn l _ _)
        · rename_i d h2 hc
          have hc' : Ww o.op E call a h = .panic d h2 := hc
          rw [hc'] at h1
          exact h1
        · trivial
    · exact VB hcn l _ _
theorem Zd8 {E : Env} {call : Call} (hcn : YF call) : ∀ (l : List CO) (i : Nat) (recs : List Rec) (incs : List (List Nat)) (a : AAct) (h : H), VG h (Xd E call i recs incs l a h)
  | [], i, recs, incs, a, h => by simp only [Xd]; exact Grow.refl _
  | o :: l, i, recs, [], a, h => by simp only [Xd]; trivial
  | o :: l, i, recs, inc :: incs, a, h => by
    simp only [Xd, Bool.cond_eq_ite]
    split
    · split
      · rename_i d h2 hc
        have h1 := Znq hcn hc
        split
        · split
          · split
            · exact VG.trans h1 (Zd8 hcn l _ _ _ _ _)
            · trivial
          · trivial
        · split
          · split
            · exact VG.trans h1 (Zd8 hcn l _ _ _ _ _)
            · trivial
          · exact VG.trans h1 (Zd8 hcn l _ _ _ _ _)
      · rename_i d h2 hc
        split
        · exact Zwz hcn hc
        · trivial
      · trivial
    · exact Zd8 hcn l _ _ _ _ _
theorem Zsp {run : AAct → H → X} (hrn : ∀ a h, VG h (run a h)) {mk : Nat → D → AAct} {a : AAct} : ∀ (l : List (Nat × D)) (h : H), VG h (Zk4 run mk a l h)
  | [], h => by simp only [Zk4]; exact Grow.refl _
  | (i, d) :: l, h => by
    simp only [Zk4]
    have h1 := hrn (mk i d) h
    split
    · rename_i a1 h2 hb
      rw [hb] at h1
      exact VG.trans h1 (Zsp hrn l _)
    · rename_i e1 a1 h2 hne hb
      rw [hb] at h1; exact h1
    · rename_i hb; rw [hb] at h1; exact h1
    · trivial
theorem VF {E : Env} {call : Call} (hcn : YF call) : ∀ (n : Nat) (c : CC) (a : AAct) (h : H), VG h (ZN E call n c a h)
  | 0, c, a, h => by simp only [ZN]; trivial
  | n + 1, c, a, h => by
    have ih := VF (E := E) hcn n
    cases c <;> simp only [ZN, Bool.cond_eq_ite]
    case skip => exact Grow.refl _
    case ops l => exact VB hcn l _ _
    case draw inc l => exact Zd8 hcn l _ _ _ _ _
    case seq x y =>
      have h1 := ih x a h
      split
      · rename_i a1 h2 hb; rw [hb] at h1; exact VG.trans h1 (ih y _ _)
      · exact h1
    case cond c x y =>
      split
      · split
        · exact ih x _ _
        · exact ih y _ _
      · trivial
    case block id c =>
      have h1 := ih c a h
      split
      · rename_i k a1 h2 hb
        rw [hb] at h1
        split <;> exact h1
      · exact h1
    case loop c =>
      have h1 := ih c a h
      split
      · rename_i a1 h2 hb; rw [hb] at h1; exact VG.trans h1 (ih (.loop c) _ _)
      · exact h1
    case exit id => exact Grow.refl _
    case ret => exact Grow.refl _
    case stop => trivial
    case back ag size gs f x y assign body =>
      split
      · split
        · split
          · split
            · refine Zsp (fun a h => ?_) _ _
              have h1 := ih assign a h
              split
              · rename_i a1 h2 hb1; rw [hb1] at h1; exact VG.trans h1 (ih body _ _)
              · exact h1
            · trivial
          · trivial
        · trivial
      · trivial
theorem Zsj {fn : CFn} {a : AAct} {h : H} : XZ h (Zan fn a h) := by
  unfold Zan
  split
  · exact Grow.refl _
  · trivial
theorem Zw3 {E : Env} {call : Call} (hcn : YF call) {n : Nat} {df : D} {r : Option D} {h h' : H} (hd : Zfm E call n df r h = some h') : Grow h h' := by
  unfold Zfm at hd
  split at hd
  · split at hd
    · rename_i p _
      have h1 : ∀ a, VG h (ZN E call n p.2 a h) := fun a => VF hcn n p.2 a h
      split at hd
      · rename_i e b h2 hb
        have h3 : VG h (.out e b h2) := hb ▸ h1 _
        split at hd
        · cases hd
        · split at hd
          · cases hd; exact h3
          · cases hd
      · cases hd
    · cases hd
  · cases hd
theorem Zgz {E : Env} {call : Call} (hcn : YF call) {n : Nat} {fn : CFn} {r : Option D} {a : AAct} {h : H} : XZ h (U9 E call n fn r a h) := by
  unfold U9
  split
  · split
    · exact Zsj
    · exact Grow.refl _
  · split
    · rename_i h2 hd; exact XZ.trans (Zw3 hcn hd) Zsj
    · trivial
  · trivial
theorem Zbd {E : Env} (hlib : ∀ f lf, E.lib f = some lf → ∀ ds h, XZ h (lf ds h)) : ∀ n, YF (Za1 E n)
  | 0 => fun f ds h => by simp only [Za1]; trivial
  | n + 1 => fun f ds h => by
    simp only [Za1]
    split
    · rename_i lf hl; exact hlib f lf hl _ _
    · split
      · trivial
      · rename_i fn _
        have h1 := VF (E := E) (Zbd hlib n) n fn.body (start ds none) h
        split
        · rename_i e a1 h2 hc
          rw [hc] at h1
          split
          · trivial
          · exact XZ.trans h1 (Zgz (Zbd hlib n))
        · rename_i d a1 h2 hc
          rw [hc] at h1
          exact XZ.trans h1 (Zgz (Zbd hlib n))
        · trivial
end
end Go.Abs
