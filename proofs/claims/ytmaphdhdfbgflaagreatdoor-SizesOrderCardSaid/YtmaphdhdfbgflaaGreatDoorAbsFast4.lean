/- The quick code comes to what the reckoner comes to. -/
import Derived.Test.YtmaphdhdfbgflaaGreatDoorAbsFast3
import Derived.Test.YtmaphdhdfbgflaaGreatDoorAbsLib3
set_option linter.unusedVariables false
namespace Go.Abs

/-- A call that says more. -/
def Better (call call' : Call) : Prop := ∀ f ds h, NoFail (call f ds h) → call' f ds h = call f ds h
def XNoFail (x : X) : Prop :=
  match x with
  | .fail _ => False
  | _ => True
section
variable {E : Env} {call call' : Call}

theorem callD_mono (hb : Better call call') (f : D) (args : List D) (h : H) (hn : NoFail (callD call f args h)) : callD call' f args h = callD call f args h := by
  unfold callD at hn ⊢
  split
  · exact hb _ _ _ hn
  · exact hb _ _ _ hn
  · rfl
theorem den_mono (hb : Better call call') (o : COp) (a : AAct) (h : H) (hn : NoFail (den o E call a h)) : den o E call' a h = den o E call a h := by
  cases o
  case call f args => exact callD_mono hb _ _ _ hn
  all_goals rfl
theorem crunOps_mono (hb : Better call call') : ∀ (l : List CO) (a : AAct) (h : H), XNoFail (crunOps E call l a h) → crunOps E call' l a h = crunOps E call l a h
  | [], a, h, hn => rfl
  | o :: r, a, h, hn => by
    simp only [crunOps] at hn ⊢
    cases hw : awanted a o with
    | false =>
      simp only [hw, cond_false] at hn ⊢
      exact crunOps_mono hb r _ _ hn
    | true =>
      simp only [hw, cond_true] at hn ⊢
      have oth : ∀ op : COp, XNoFail (match crun E call a op h with
          | .ok d h => crunOps E call r (a.put o.dst d) h
          | .panic d h => .panic d a h
          | .fail w => .fail w) → (match crun E call' a op h with
          | .ok d h => crunOps E call' r (a.put o.dst d) h
          | .panic d h => .panic d a h
          | .fail w => .fail w) = (match crun E call a op h with
          | .ok d h => crunOps E call r (a.put o.dst d) h
          | .panic d h => .panic d a h
          | .fail w => .fail w) := by
        intro op hn
        unfold crun at hn ⊢
        have hnf : NoFail (den op E call a h) := by
          cases hd : den op E call a h with
          | ok d h' => trivial
          | panic d h' => trivial
          | fail w => rw [hd] at hn; exact hn.elim
        rw [den_mono hb op a h hnf]
        cases hd : den op E call a h with
        | ok d h' => rw [hd] at hn; exact crunOps_mono hb r _ _ hn
        | panic d h' => rfl
        | fail w => rfl
      cases ho : o.op
      case dfr f =>
        simp only [ho] at hn ⊢
        split at hn
        · rename_i g x y he
          first
            | exact crunOps_mono hb r _ _ hn
            | (split <;> first | exact crunOps_mono hb r _ _ hn | rfl)
        · exact hn.elim
      all_goals
        simp only [ho] at hn ⊢
        rw [← ho] at hn ⊢
        exact oth o.op hn
theorem cdraw_mono (hb : Better call call') : ∀ (l : List CO) (i : Nat) (recs : List Rec) (incs : List (List Nat)) (a : AAct) (h : H), XNoFail (cdraw E call i recs incs l a h) → cdraw E call' i recs incs l a h = cdraw E call i recs incs l a h
  | [], i, recs, incs, a, h, hn => by cases incs <;> rfl
  | o :: r, i, recs, [], a, h, hn => rfl
  | o :: r, i, recs, inc :: incs, a, h, hn => by
    simp only [cdraw] at hn ⊢
    cases hw : awanted a o with
    | false =>
      simp only [hw, cond_false] at hn ⊢
      exact cdraw_mono hb r _ _ _ _ _ hn
    | true =>
      simp only [hw, cond_true] at hn ⊢
      unfold crun at hn ⊢
      have hnf : NoFail (den o.op E call a h) := by
        cases hd : den o.op E call a h with
        | ok d h' => trivial
        | panic d h' => trivial
        | fail w => rw [hd] at hn; exact hn.elim
      rw [den_mono hb o.op a h hnf]
      cases hd : den o.op E call a h with
      | ok d h' =>
        simp only [hd] at hn ⊢
        cases hr : readsOf a o.op with
        | some q =>
          obtain ⟨x, n⟩ := q
          simp only [hr] at hn ⊢
          cases hc : readCells h x n with
          | none => rfl
          | some cs =>
            simp only [hc] at hn ⊢
            cases hk : readOk inc x cs recs with
            | false => rfl
            | true => simp only [hk, cond_true] at hn ⊢; exact cdraw_mono hb r _ _ _ _ _ hn
        | none =>
          simp only [hr] at hn ⊢
          cases hl : isLoud o.op with
          | true =>
            simp only [hl, cond_true] at hn ⊢
            cases hk : loudOk inc h' recs with
            | false => rfl
            | true => simp only [hk, cond_true] at hn ⊢; exact cdraw_mono hb r _ _ _ _ _ hn
          | false => simp only [hl, cond_false] at hn ⊢; exact cdraw_mono hb r _ _ _ _ _ hn
      | panic d h' => rfl
      | fail w => rfl
theorem aback_mono {run run' : AAct → H → X} (hr : ∀ a h, XNoFail (run a h) → run' a h = run a h) (mk : Nat → D → AAct) (a : AAct) : ∀ (l : List (Nat × D)) (h : H), XNoFail (aback run mk a l h) → aback run' mk a l h = aback run mk a l h
  | [], h, hn => rfl
  | (i, d) :: r, h, hn => by
    simp only [aback] at hn ⊢
    have hnf : XNoFail (run (mk i d) h) := by
      cases hd : run (mk i d) h with
      | out e a h' => trivial
      | panic d h' => trivial
      | fail w => rw [hd] at hn; exact hn.elim
    rw [hr _ _ hnf]
    cases hd : run (mk i d) h with
    | out e a' h' =>
      rw [hd] at hn
      cases e with
      | normal => exact aback_mono hr mk a r h' hn
      | exit id => rfl
      | ret => rfl
    | panic d h' => rfl
    | fail w => rfl
theorem ccode_mono (hb : Better call call') : ∀ (n : Nat) (c : CC) (a : AAct) (h : H), XNoFail (ccode E call n c a h) → ccode E call' n c a h = ccode E call n c a h
  | 0, c, a, h, hn => rfl
  | n + 1, c, a, h, hn => by
    have nf : ∀ (c : CC) (a : AAct) (h : H) (k : X → X), (∀ w, k (.fail w) = .fail w) → XNoFail (k (ccode E call n c a h)) → ccode E call' n c a h = ccode E call n c a h := fun c a h k hk hn => by
      refine ccode_mono hb n c a h ?_
      cases hd : ccode E call n c a h with
      | out e a h' => trivial
      | panic d h' => trivial
      | fail w => rw [hd, hk] at hn; exact hn.elim
    cases c with
    | skip => rfl
    | ops l => exact crunOps_mono hb l a h hn
    | draw inc l => exact cdraw_mono hb l 0 [] inc a h hn
    | seq x y =>
      simp only [ccode] at hn ⊢
      rw [nf x a h (fun r => match r with
        | .out .normal a h => ccode E call n y a h
        | r => r) (fun _ => rfl) hn]
      cases hd : ccode E call n x a h with
      | out e a' h' =>
        rw [hd] at hn
        cases e with
        | normal => exact ccode_mono hb n y a' h' hn
        | exit id => rfl
        | ret => rfl
      | panic d h' => rfl
      | fail w => rfl
    | cond c x y =>
      simp only [ccode] at hn ⊢
      split
      · rename_i b he
        simp only [he] at hn
        cases b with
        | true => exact ccode_mono hb n x a h hn
        | false => exact ccode_mono hb n y a h hn
      · rfl
    | block id x =>
      simp only [ccode] at hn ⊢
      rw [nf x a h (fun r => match r with
        | .out (.exit k) a h => bif Nat.beq k id then .out .normal a h else .out (.exit k) a h
        | r => r) (fun _ => rfl) hn]
    | loop x =>
      simp only [ccode] at hn ⊢
      rw [nf x a h (fun r => match r with
        | .out .normal a h => ccode E call n (.loop x) a h
        | r => r) (fun _ => rfl) hn]
      cases hd : ccode E call n x a h with
      | out e a' h' =>
        rw [hd] at hn
        cases e with
        | normal => exact ccode_mono hb n (.loop x) a' h' hn
        | exit id => rfl
        | ret => rfl
      | panic d h' => rfl
      | fail w => rfl
    | exit id => rfl
    | ret => rfl
    | stop => rfl
    | back ag size gs f x y assign body =>
      simp only [ccode] at hn ⊢
      split
      · rename_i gg p he
        simp only [he] at hn
        cases hm : mem? gg gs with
        | false => rfl
        | true =>
          simp only [hm, cond_true] at hn ⊢
          split
          · rename_i s hs
            simp only [hs] at hn
            split
            · rename_i k cs hk
              simp only [hk] at hn
              refine aback_mono (fun a h hn => ?_) _ a _ h hn
              rw [nf assign a h (fun r => match r with
                | .out .normal a h => ccode E call n body a h
                | r => r) (fun _ => rfl) hn]
              cases hd : ccode E call n assign a h with
              | out e a' h' =>
                rw [hd] at hn
                cases e with
                | normal => exact ccode_mono hb n body a' h' hn
                | exit id => rfl
                | ret => rfl
              | panic d h' => rfl
              | fail w => rfl
            · rfl
          · rfl
      · rfl
theorem cdefer_mono (hb : Better call call') (n : Nat) (df : D) (r : Option D) (h h' : H) (hn : cdefer E call n df r h = some h') : cdefer E call' n df r h = some h' := by
  unfold cdefer at hn ⊢
  split
  · split
    · rename_i g x y _ p hp
      simp only [hp] at hn
      have hnf : XNoFail (ccode E call n p.2 ((start (x ++ y) none).put p.1 (recD r)) h) := by
        cases hd : ccode E call n p.2 ((start (x ++ y) none).put p.1 (recD r)) h with
        | out e a h' => trivial
        | panic d h' => trivial
        | fail w => rw [hd] at hn; cases hn
      rw [ccode_mono hb n _ _ _ hnf]
      exact hn
    · rename_i hp; simp only [hp] at hn; cases hn
  · rename_i hno
    split at hn
    · rename_i g x y; exact absurd rfl (hno g x y)
    · cases hn
theorem cleave_mono (hb : Better call call') (n : Nat) (fn : CFn) (r : Option D) (a : AAct) (h : H) (hn : NoFail (cleave E call n fn r a h)) : cleave E call' n fn r a h = cleave E call n fn r a h := by
  unfold cleave at hn ⊢
  split
  · rfl
  · rename_i df hd
    simp only [hd] at hn
    cases hc : cdefer E call n df r h with
    | none => simp only [hc] at hn; exact hn.elim
    | some h' => rw [cdefer_mono hb n df r h h' hc]
  · rfl
end

/-- What a call comes to, one step. -/
def cbody (E : Env) (n : Nat) (call : Call) (f : Nat) (args : List D) (h : H) : O D :=
  match E.lib f with
  | some g => g args h
  | none => match E.fns f with
    | none => .fail ("no function " ++ toString f)
    | some fn => fslow fn E n call args h
theorem ccall_succ (E : Env) (n f : Nat) (args : List D) (h : H) : ccall E (n + 1) f args h = cbody E n (ccall E n) f args h := by
  simp only [ccall, cbody, fslow]
  cases E.lib f with
  | some g => rfl
  | none => cases E.fns f with
    | none => rfl
    | some fn =>
      simp only []
      cases ccode E (ccall E n) n fn.body (start args none) h <;> rfl
theorem fslow_mono {E : Env} {call call' : Call} (hb : Better call call') (fn : CFn) (n : Nat) (args : List D) (h : H) (hn : NoFail (fslow fn E n call args h)) : fslow fn E n call' args h = fslow fn E n call args h := by
  unfold fslow at hn ⊢
  have hnf : XNoFail (ccode E call n fn.body (start args none) h) := by
    cases hd : ccode E call n fn.body (start args none) h with
    | out e a h' => trivial
    | panic d h' => trivial
    | fail w => rw [hd] at hn; exact hn.elim
  rw [ccode_mono hb n _ _ _ hnf]
  cases hd : ccode E call n fn.body (start args none) h with
  | out e a h' =>
    rw [hd] at hn
    cases e with
    | normal => exact cleave_mono hb n fn none a h' hn
    | exit id => rfl
    | ret => exact cleave_mono hb n fn none a h' hn
  | panic d a h' => rw [hd] at hn; exact cleave_mono hb n fn (some d) a h' hn
  | fail w => rfl
theorem cbody_mono {E : Env} {call call' : Call} (hb : Better call call') (n f : Nat) (args : List D) (h : H) (hn : NoFail (cbody E n call f args h)) : cbody E n call' f args h = cbody E n call f args h := by
  unfold cbody at hn ⊢
  split
  · rfl
  · split
    · rfl
    · rename_i h1 _ fn h2
      simp only [h1, h2] at hn
      exact fslow_mono hb fn n args h hn

/-- A quick function in the place of function k. -/
def Leaf (E : Env) (k : Nat) (q : FFn) : Prop := ∀ n call args h, NoFail (q E n call args h) → q E n call args h = cbody E n call k args h
def qnone : FFn := fun E n call args h => .fail "no function"
def tleaf (k : Nat) (q : FFn) : Nat → FFn := fun f => bif Nat.beq f k then q else qnone
def tnode (m : Nat) (a b : Nat → FFn) : Nat → FFn := fun f => bif Nat.blt f m then a f else b f
def Tab (E : Env) (T : Nat → FFn) : Prop := ∀ f, Leaf E f (T f)
theorem leaf_none (E : Env) (k : Nat) : Leaf E k qnone := fun n call args h hn => hn.elim
theorem tab_leaf {E : Env} {k : Nat} {q : FFn} (hq : Leaf E k q) : Tab E (tleaf k q) := fun f => by
  unfold tleaf
  cases hb : Nat.beq f k with
  | true => have := Nat.eq_of_beq_eq_true hb; subst this; exact hq
  | false => exact leaf_none E f
theorem tab_node {E : Env} {m : Nat} {a b : Nat → FFn} (ha : Tab E a) (hb : Tab E b) : Tab E (tnode m a b) := fun f => by
  unfold tnode
  cases Nat.blt f m with
  | true => exact ha f
  | false => exact hb f
theorem leaf_lib {E : Env} {k : Nat} {g : List D → H → O D} (hl : E.lib k = some g) : Leaf E k (flib g) := fun n call args h hn => by
  simp only [flib, cbody, hl]
theorem leaf_slow {E : Env} {k : Nat} {q : FFn} (hl : E.lib k = none) (hq : (E.fns k).map fslow = some q) : Leaf E k q := fun n call args h hn => by
  cases hf : E.fns k with
  | none => rw [hf] at hq; cases hq
  | some fn =>
    rw [hf] at hq
    cases hq
    simp only [cbody, hl, hf]
theorem leaf_fast {E : Env} {k m : Nat} {q : FFn} (hl : E.lib k = none) (hq : (E.fns k).map (fcfn m) = some q) : Leaf E k q := fun n call args h hn => by
  cases hf : E.fns k with
  | none => rw [hf] at hq; cases hq
  | some fn =>
    rw [hf] at hq
    cases hq
    simp only [cbody, hl, hf]
    exact fcfn_ok E m fn n call args h hn
theorem fcall_ok {E : Env} {T : Nat → FFn} (ht : Tab E T) : ∀ n f args h, NoFail (fcall E T n f args h) → ccall E n f args h = fcall E T n f args h
  | 0, f, args, h, hn => hn.elim
  | n + 1, f, args, h, hn => by
    have h1 : fcall E T (n + 1) f args h = cbody E n (fcall E T n) f args h := ht f n (fcall E T n) args h hn
    rw [h1] at hn
    rw [ccall_succ, h1]
    exact cbody_mono (fun f ds h hn => fcall_ok ht n f ds h hn) n f args h hn

/-! The environment of a program. -/
def fnsOf (P : Program) (glob : Nat → Option (List D)) (f : Nat) : Option CFn :=
  match P.funcs[f]? with
  | some fn => bif fn.name == "runtime.NumGoroutine" then none else cfn P glob none fn
  | none => none
def dfrsOf (P : Program) (glob : Nat → Option (List D)) (f : Nat) : Option (Option Nat × CC) :=
  match P.funcs[f]? with
  | some fn => bif fn.name == "runtime.NumGoroutine" then none else cdfr P glob fn
  | none => none
def envOf (P : Program) (glob : Nat → Option (List D)) (lib : Nat → Option (List D → H → O D)) : Env := ⟨P, fnsOf P glob, lib, dfrsOf P glob⟩
theorem told (P : Program) (glob : Nat → Option (List D)) (lib : Nat → Option (List D → H → O D)) (ho : P.follows .mixedOrders = true) (hlib : ∀ f lf, lib f = some lf → LibSim P f lf glob) (hgrow : ∀ f lf, lib f = some lf → ∀ ds h, Ogrow h (lf ds h)) :
    Told P glob (envOf P glob lib) where
  prog := rfl
  orders := ho
  fns := fun f cf hf => by
    have hf : fnsOf P glob f = some cf := hf
    unfold fnsOf at hf
    split at hf
    · rename_i fn hfn
      cases hn : fn.name == "runtime.NumGoroutine" with
      | true => rw [hn] at hf; cases hf
      | false =>
        rw [hn] at hf
        exact ⟨fn, none, hfn, hn, hf, backSim_none⟩
    · cases hf
  dfrs := fun f p hf => by
    have hf : dfrsOf P glob f = some p := hf
    unfold dfrsOf at hf
    split at hf
    · rename_i fn hfn
      cases hn : fn.name == "runtime.NumGoroutine" with
      | true => rw [hn] at hf; cases hf
      | false =>
        rw [hn] at hf
        exact ⟨fn, hfn, hn, hf⟩
    · cases hf
  lib := hlib
  libgrow := hgrow
end Go.Abs
