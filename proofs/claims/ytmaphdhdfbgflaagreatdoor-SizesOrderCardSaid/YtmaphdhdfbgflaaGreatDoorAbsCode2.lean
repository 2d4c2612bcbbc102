/- Code, in a world and on plain data: blocks, loops, calls. -/
import Derived.Test.YtmaphdhdfbgflaaGreatDoorAbsCode
import Derived.Test.YtmaphdhdfbgflaaGreatDoorAbsDom
import Derived.LoopN
set_option linter.unusedVariables false
namespace Go.Abs

def GlobOk (g : G) (glob : Nat → Option (List D)) : Prop := ∀ i cs, glob i = some cs → VRel g (.ep cs) (.pointer (some ⟨i, 0, none⟩))
theorem GlobOk.mono {g g' : G} (hl : g.Le g') {glob : Nat → Option (List D)} (h : GlobOk g glob) : GlobOk g' glob := fun i cs hh => (h i cs hh).mono hl

/-- What code comes to. -/
def Goes (P : Program) (glob : Nat → Option (List D)) (N : Nat) (c : Code) (a : AAct) (h : H) (r : AEnd) (a' : AAct) (h' : H) : Prop :=
  ∀ (top : Nat) (g : G) (w : World) (A : Act) (Q : Exit → Act → World → Prop), h'.next ≤ top → R P top g h w → ARel g a A N → GlobOk g glob →
    (∀ w' g' A' x, Ext g h w g' h' w' → R P top g' h' w' → ARel g' a' A' N → r.ends g' x → Q x A' w') → c.wp P Q A w

/-- What an open region must be shown to do. -/
def DrawSim (P : Program) (glob : Nat → Option (List D)) (N : Nat) (E : Env) : Prop := ∀ (call : Call), CallSim P call glob → CallGrow call → ∀ (id : Nat) (ops : Array Oper) (l : List CO) (a : AAct) (h : H) (r : AEnd) (a' : AAct) (h' : H),
  cops P glob N ops.toList ops.toList = some l → drawOk ops.toList l (incs ops) = true → cdraw E call 0 [] (incs ops) l a h = .mk r a' h' → Goes P glob N (.region id ops true) a h r a' h'
/-- What a range over a function must be shown to do. -/
def BackSim (P : Program) (glob : Nat → Option (List D)) (N : Nat) (E : Env) (back : Option (Bool × Nat × List Nat)) : Prop := ∀ (call : Call), CallSim P call glob → CallGrow call → ∀ (f : Operand) (ps : Array Tmp) (assign body : Code) (n : Nat) (cc : CC) (a : AAct) (h : H) (r : AEnd) (a' : AAct) (h' : H),
  ccomp P glob N back (.rangeFunc f ps assign body) = some cc → (∀ c cc' a h r a' h', ccomp P glob N back c = some cc' → ccode E call n cc' a h = .mk r a' h' → Goes P glob N c a h r a' h') →
  ccode E call (n + 1) cc a h = .mk r a' h' → Goes P glob N (.rangeFunc f ps assign body) a h r a' h'
theorem backSim_none {P : Program} {glob : Nat → Option (List D)} {N : Nat} {E : Env} : BackSim P glob N E none := by
  intro call _ _ f ps assign body n cc a h r a' h' hc
  exfalso
  simp only [ccomp] at hc
  repeat' (first | (cases hc; done) | split at hc)

section
variable {P : Program} {glob : Nat → Option (List D)} {N : Nat} {E : Env} {back : Option (Bool × Nat × List Nat)}

theorem loop_sim {call : Call} (hcn : CallGrow call) {c : Code} {cc : CC} (n : Nat) (hS : ∀ m, m ≤ n → ∀ a h r a' h', ccode E call m cc a h = .mk r a' h' → Goes P glob N c a h r a' h') :
    ∀ m, m ≤ n + 1 → ∀ a h r a' h', ccode E call m (.loop cc) a h = .mk r a' h' → ∀ (top : Nat) (g : G) (w : World) (A : Act) (Q : Exit → Act → World → Prop), h'.next ≤ top → R P top g h w → ARel g a A N → GlobOk g glob →
      (∀ w' g' A' x, Ext g h w g' h' w' → R P top g' h' w' → ARel g' a' A' N → r.ends g' x → Q x A' w') → Code.rounds P c Q m A w := by
  intro m
  induction m with
  | zero => intro _ a h r a' h' hrun; simp only [ccode] at hrun; exact (X.mk_fail hrun).elim
  | succ m ih =>
    intro hm a h r a' h' hrun top g w A Q htop hr hA hg hQ
    simp only [ccode] at hrun
    rw [rounds_succ]
    split at hrun
    · rename_i a1 h1 hb
      have hgr := ccode_dom (E := E) hcn m (.loop cc) a1 h1
      rw [hrun] at hgr
      refine hS m (by omega) a h (.exit .normal) a1 h1 hb top g w A _ (Nat.le_trans hgr.mk.next htop) hr hA hg fun w' g' A' x hE' hR' hA' hx => ?_
      cases hx
      exact ih (by omega) a1 h1 r a' h' hrun top g' w' A' Q htop hR' hA' (hg.mono hE'.le) fun w'' g'' A'' x hE'' hR'' hA'' hx => hQ w'' g'' A'' x (Ext.trans hr hR' hE' hE'') hR'' hA'' hx
    · rename_i hne
      refine hS m (by omega) a h r a' h' hrun top g w A _ htop hr hA hg fun w' g' A' x hE' hR' hA' hx => ?_
      have := hQ w' g' A' x hE' hR' hA' hx
      cases r with
      | panic d => obtain ⟨v, rfl, hv⟩ := hx; exact this
      | exit e =>
        cases hx
        cases e with
        | normal => exact absurd hrun (hne _ _)
        | exit id => exact this
        | ret => exact this

theorem code_sim {call : Call} (hcall : CallSim P call glob) (hcn : CallGrow call) (hE : E.P = P) (hdraw : DrawSim P glob N E) (hback : BackSim P glob N E back) :
    ∀ (n : Nat) (c : Code) (cc : CC) (a : AAct) (h : H) (r : AEnd) (a' : AAct) (h' : H), ccomp P glob N back c = some cc → ccode E call n cc a h = .mk r a' h' → Goes P glob N c a h r a' h' := by
  intro n
  induction n using Nat.strongRecOn with
  | _ n ih =>
    intro c cc a h r a' h' hc hrun
    cases n with
    | zero => simp only [ccode] at hrun; exact (X.mk_fail hrun).elim
    | succ n =>
      have ihn := ih n (Nat.lt_succ_self n)
      cases c with
      | skip =>
        simp [ccomp] at hc; subst hc
        simp only [ccode] at hrun; obtain ⟨rfl, rfl, rfl⟩ := X.mk_out hrun
        exact fun top g w A Q htop hr hA hg hQ => wp_skip (hQ w g A .normal (.refl g _ w) hr hA rfl)
      | label l =>
        simp [ccomp] at hc; subst hc
        simp only [ccode] at hrun; obtain ⟨rfl, rfl, rfl⟩ := X.mk_out hrun
        exact fun top g w A Q htop hr hA hg hQ => wp_label (hQ w g A .normal (.refl g _ w) hr hA rfl)
      | region id ops draw =>
        simp only [ccomp] at hc
        split at hc
        · rename_i l hl
          cases draw with
          | false =>
            cases hc
            simp only [ccode] at hrun
            exact fun top g w A Q htop hr hA hg hQ => wp_region_list (ops_sim rfl hcall hcn E hE ops.toList hl hA hg hr htop hrun hQ)
          | true =>
            simp only [cond_true] at hc
            cases hd : drawOk ops.toList l (incs ops) with
            | false => rw [hd] at hc; cases hc
            | true =>
              rw [hd] at hc
              cases hc
              simp only [ccode] at hrun
              exact hdraw call hcall hcn id ops l a h r a' h' hl hd hrun
        · cases hc
      | seq x y =>
        simp only [ccomp] at hc
        split at hc
        · rename_i cx cy hx hy
          cases hc
          simp only [ccode] at hrun
          split at hrun
          · rename_i a1 h1 hb
            intro top g w A Q htop hr hA hg hQ
            have hgr := ccode_dom (E := E) hcn n cy a1 h1
            rw [hrun] at hgr
            refine wp_seq (ihn x cx a h (.exit .normal) a1 h1 hx hb top g w A _ (Nat.le_trans hgr.mk.next htop) hr hA hg fun w' g' A' xx hE' hR' hA' hxx => ?_)
            cases hxx
            exact ihn y cy a1 h1 r a' h' hy hrun top g' w' A' Q htop hR' hA' (hg.mono hE'.le) fun w'' g'' A'' xx hE'' hR'' hA'' hxx => hQ w'' g'' A'' xx (Ext.trans hr hR' hE' hE'') hR'' hA'' hxx
          · rename_i hne
            intro top g w A Q htop hr hA hg hQ
            refine wp_seq (ihn x cx a h r a' h' hx hrun top g w A _ htop hr hA hg fun w' g' A' xx hE' hR' hA' hxx => ?_)
            have := hQ w' g' A' xx hE' hR' hA' hxx
            cases r with
            | panic d => obtain ⟨v, rfl, hv⟩ := hxx; exact this
            | exit e =>
              cases hxx
              cases e with
              | normal => exact absurd hrun (hne _ _)
              | exit id => exact this
              | ret => exact this
        · cases hc
      | cond k x y =>
        simp only [ccomp] at hc
        split at hc
        · rename_i ck cx cy hk hx hy
          cases hc
          simp only [ccode] at hrun
          split at hrun
          · rename_i b hb
            intro top g w A Q htop hr hA hg hQ
            have h1 := hA.orel hg k ck hk
            rw [hb] at h1
            have hkv : A.eval k = .bool b := by
              generalize hv : A.eval k = v at h1
              cases h1; rfl
            refine wp_cond hkv ?_
            cases b with
            | true => exact ihn x cx a h r a' h' hx hrun top g w A Q htop hr hA hg hQ
            | false => exact ihn y cy a h r a' h' hy hrun top g w A Q htop hr hA hg hQ
          · exact (X.mk_fail hrun).elim
        · cases hc
      | block id x =>
        simp only [ccomp] at hc
        obtain ⟨cx, hx, rfl⟩ := map_some hc
        simp only [ccode] at hrun
        intro top g w A Q htop hr hA hg hQ
        refine wp_block ?_
        split at hrun
        · rename_i k a1 h1 hb
          cases hq : Nat.beq k id with
          | true =>
            rw [hq] at hrun
            obtain ⟨rfl, rfl, rfl⟩ := X.mk_out hrun
            refine ihn x cx a h (.exit (.exit k)) a' h' hx hb top g w A _ htop hr hA hg fun w' g' A' xx hE' hR' hA' hxx => ?_
            cases hxx
            have := Nat.eq_of_beq_eq_true hq
            show if k = id then _ else _
            rw [if_pos this]; exact hQ w' g' A' .normal hE' hR' hA' rfl
          | false =>
            rw [hq] at hrun
            obtain ⟨rfl, rfl, rfl⟩ := X.mk_out hrun
            refine ihn x cx a h (.exit (.exit k)) a' h' hx hb top g w A _ htop hr hA hg fun w' g' A' xx hE' hR' hA' hxx => ?_
            cases hxx
            have hne : k ≠ id := fun e0 => by subst e0; simp at hq
            show if k = id then _ else _
            rw [if_neg hne]; exact hQ w' g' A' _ hE' hR' hA' rfl
        · rename_i hne
          refine ihn x cx a h r a' h' hx hrun top g w A _ htop hr hA hg fun w' g' A' xx hE' hR' hA' hxx => ?_
          have := hQ w' g' A' xx hE' hR' hA' hxx
          cases r with
          | panic d => obtain ⟨v, rfl, hv⟩ := hxx; exact this
          | exit e =>
            cases hxx
            cases e with
            | normal => exact this
            | exit k => exact absurd hrun (hne _ _ _)
            | ret => exact this
      | loop x =>
        simp only [ccomp] at hc
        obtain ⟨cx, hx, rfl⟩ := map_some hc
        intro top g w A Q htop hr hA hg hQ
        exact wp_loop_rounds (n + 1) (loop_sim hcn n (fun m hm a h r a' h' hh => ih m (by omega) x cx a h r a' h' hx hh) (n + 1) (Nat.le_refl _) a h r a' h' hrun top g w A Q htop hr hA hg hQ)
      | rangeFunc f ps assign body => exact hback call hcall hcn f ps assign body n cc a h r a' h' hc ihn hrun
      | exit id =>
        simp [ccomp] at hc; subst hc
        simp only [ccode] at hrun; obtain ⟨rfl, rfl, rfl⟩ := X.mk_out hrun
        exact fun top g w A Q htop hr hA hg hQ => wp_exit (hQ w g A _ (.refl g _ w) hr hA rfl)
      | scope x => simp [ccomp] at hc
      | goto l => simp [ccomp] at hc
      | ret =>
        simp [ccomp] at hc; subst hc
        simp only [ccode] at hrun; obtain ⟨rfl, rfl, rfl⟩ := X.mk_out hrun
        exact fun top g w A Q htop hr hA hg hQ => wp_ret (hQ w g A _ (.refl g _ w) hr hA rfl)
      | refuse why =>
        simp [ccomp] at hc; subst hc
        simp only [ccode] at hrun; exact (X.mk_fail hrun).elim
end
end Go.Abs
