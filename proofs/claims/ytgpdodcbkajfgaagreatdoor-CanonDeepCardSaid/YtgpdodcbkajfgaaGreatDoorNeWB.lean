/- Functions that defer a call: rules. -/
import Derived.Test.YtgpdodcbkajfgaaGreatDoorNeW
set_option linter.unusedVariables false
set_option linter.unusedSimpArgs false
namespace Go.Abs
def AAct.at (t : Tr D) (ds : List D) : AAct := ⟨t, ds, none, false⟩
theorem at_eval (t : Tr D) (ds : List D) (x : Opd) : (AAct.at t ds).eval x = (act t).eval x := by cases x <;> rfl
theorem at_fun (t : Tr D) (ds : List D) : (AAct.at t ds).eval = (act t).eval := funext (at_eval t ds)
theorem at_evals (t : Tr D) (ds : List D) : ∀ l, (AAct.at t ds).evals l = (act t).evals l
  | [] => rfl
  | x :: l => by simp only [AAct.evals, at_eval, at_evals t ds l]
def plainO : COp → Bool
  | .dfr _ => false
  | .rcv => false
  | _ => true
theorem at_parts (t : Tr D) (ds : List D) : ∀ (l : List (Nat × Nat × Opd)) (cs : List D), fillD (AAct.at t ds) cs l = fillD (act t) cs l := by
  intro l
  induction l with
  | nil => intro cs; rfl
  | cons p l ih => intro cs; obtain ⟨a, b, x⟩ := p; simp only [fillD, at_eval, ih]
theorem crun_at {E : Env} {call : Call} {t : Tr D} {ds : List D} {h : H} {o : COp} (ho : plainO o = true) : crun E call (AAct.at t ds) o h = crun E call (act t) o h := by
  cases o <;> first | (cases ho; done) | (simp only [crun, den, r_mv, r_mvs, r_pick, r_alloc, r_box, r_build, XW, r_ld1, r_ldN, r_st, ZJ, r_bin, r_un, r_cint, r_s2b, r_b2s, r_conv, YX, r_mkf, r_mkmap, XK, r_slstr, r_slsl, Wa, YC, Xf, r_ixa, r_ixs, r_idxa, XD, r_apps, Wc, r_msetV, r_look, r_mset, r_tas, r_ext, r_call, YY, Xo, Xl, r_lenm, r_copy, r_bi, Wb, at_eval, at_evals, at_parts, at_fun]; done)
def plainC : CC → Bool
  | .skip => true
  | .ops l => l.all fun o => plainO o.op
  | .seq a b => plainC a && plainC b
  | .cond _ a b => plainC a && plainC b
  | .block _ c => plainC c
  | .loop c => plainC c
  | .exit _ => true
  | .ret => true
  | _ => false
def Ride (ds : List D) (x y : X) : Prop :=
  match x with
  | .out e a h => ∃ t, a = act t ∧ y = .out e (AAct.at t ds) h
  | .panic d a h => ∃ a', y = .panic d a' h ∧ a'.defers = ds
  | .fail _ => True
theorem at_put (t : Tr D) (ds : List D) (dst : Option Nat) (d : D) : ∃ t', (act t).put dst d = act t' ∧ (AAct.at t ds).put dst d = AAct.at t' ds := by
  cases dst with
  | none => exact ⟨t, rfl, rfl⟩
  | some n => exact ⟨_, rfl, rfl⟩
theorem ride_ops {E : Env} {call : Call} {ds : List D} : ∀ (l : List CO) (t : Tr D) (h : H), (l.all fun o => plainO o.op) = true → Ride ds (Yj E call l (act t) h) (Yj E call l (AAct.at t ds) h)
  | [], t, h, _ => ⟨t, rfl, rfl⟩
  | o :: l, t, h, hp => by
    simp only [List.all_cons, Bool.and_eq_true] at hp
    have hw : ZY (AAct.at t ds) o = ZY (act t) o := rfl
    simp only [Yj, hw]
    cases ZY (act t) o with
    | false =>
      obtain ⟨t', e1, e2⟩ := at_put t ds o.dst Yr
      simp only [cond_false, e1, e2]
      exact ride_ops l t' h hp.2
    | true =>
      simp only [cond_true]
      have hc := crun_at (E := E) (call := call) (t := t) (ds := ds) (h := h) hp.1
      obtain ⟨dst, g, op⟩ := o
      obtain ⟨r, hr⟩ : ∃ r, crun E call (act t) op h = r := ⟨_, rfl⟩
      rw [hr] at hc
      cases op
      all_goals first
        | (cases hp.1; done)
        | (simp only [hc, hr]
           cases r with
           | ok d h' =>
             obtain ⟨t', e1, e2⟩ := at_put t ds dst d
             simp only [e1, e2]
             exact ride_ops l t' h' hp.2
           | panic d h' => exact ⟨_, rfl, rfl⟩
           | fail w => trivial)
theorem ride_code {E : Env} {call : Call} {ds : List D} : ∀ (n : Nat) (c : CC) (t : Tr D) (h : H), plainC c = true → Ride ds (ZI E call n c (act t) h) (ZI E call n c (AAct.at t ds) h)
  | 0, c, t, h, _ => trivial
  | n + 1, c, t, h, hp => by
    have ih := @ride_code E call ds n
    cases c with
    | skip => exact ⟨t, rfl, rfl⟩
    | ops l => exact ride_ops l t h hp
    | draw a b => cases hp
    | seq a b =>
      simp only [plainC, Bool.and_eq_true] at hp
      have h1 := ih a t h hp.1
      simp only [ZI]
      cases hx : ZI E call n a (act t) h with
      | out e a' h' =>
        rw [hx] at h1
        obtain ⟨t', rfl, e2⟩ := h1
        rw [e2]
        cases e with
        | normal => exact ih b t' h' hp.2
        | exit id => exact ⟨t', rfl, rfl⟩
        | ret => exact ⟨t', rfl, rfl⟩
      | panic d a' h' =>
        rw [hx] at h1
        obtain ⟨a2, e2, e3⟩ := h1
        rw [e2]
        exact ⟨_, rfl, e3⟩
      | fail w => trivial
    | cond o a b =>
      simp only [plainC, Bool.and_eq_true] at hp
      simp only [ZI, at_eval]
      cases ho : (act t).eval o with
      | v x =>
        cases x with
        | bool b' =>
          cases b' with
          | true => exact ih a t h hp.1
          | false => exact ih b t h hp.2
        | _ => trivial
      | _ => trivial
    | block id a =>
      have h1 := ih a t h hp
      simp only [ZI]
      cases hx : ZI E call n a (act t) h with
      | out e a' h' =>
        rw [hx] at h1
        obtain ⟨t', rfl, e2⟩ := h1
        rw [e2]
        cases e with
        | normal => exact ⟨t', rfl, rfl⟩
        | exit k =>
          simp only
          cases Nat.beq k id with
          | true => exact ⟨t', rfl, rfl⟩
          | false => exact ⟨t', rfl, rfl⟩
        | ret => exact ⟨t', rfl, rfl⟩
      | panic d a' h' =>
        rw [hx] at h1
        obtain ⟨a2, e2, e3⟩ := h1
        rw [e2]
        exact ⟨_, rfl, e3⟩
      | fail w => trivial
    | loop a =>
      have h1 := ih a t h hp
      simp only [ZI]
      cases hx : ZI E call n a (act t) h with
      | out e a' h' =>
        rw [hx] at h1
        obtain ⟨t', rfl, e2⟩ := h1
        rw [e2]
        cases e with
        | normal => exact ih (.loop a) t' h' hp
        | exit id => exact ⟨t', rfl, rfl⟩
        | ret => exact ⟨t', rfl, rfl⟩
      | panic d a' h' =>
        rw [hx] at h1
        obtain ⟨a2, e2, e3⟩ := h1
        rw [e2]
        exact ⟨_, rfl, e3⟩
      | fail w => trivial
    | exit id => exact ⟨t, rfl, rfl⟩
    | ret => exact ⟨t, rfl, rfl⟩
    | stop => cases hp
    | back a b c d e f g h' => cases hp
def wrC (j : Nat) : CC → Bool
  | .skip => false
  | .ops l => l.any fun o => match o.dst with
    | some i => Nat.beq i j
    | none => false
  | .seq a b => wrC j a || wrC j b
  | .cond _ a b => wrC j a || wrC j b
  | .block _ c => wrC j c
  | .loop c => wrC j c
  | _ => false
def Kept (j : Nat) (a : AAct) (x : X) : Prop :=
  match x with
  | .out _ b _ => b.tmps.get j = a.tmps.get j
  | .panic _ b _ => b.tmps.get j = a.tmps.get j
  | .fail _ => True
theorem Kept.trans {j : Nat} {a b : AAct} {x : X} (h : Kept j b x) (e : b.tmps.get j = a.tmps.get j) : Kept j a x := by
  cases x with
  | out _ _ _ => exact Eq.trans h e
  | panic _ _ _ => exact Eq.trans h e
  | fail _ => trivial
theorem put_keep {a : AAct} {dst : Option Nat} {d : D} {j : Nat} (hj : (match dst with
    | some i => Nat.beq i j
    | none => false) = false) : (a.put dst d).tmps.get j = a.tmps.get j := by
  cases dst with
  | none => rfl
  | some i =>
    have : ¬ j = i := fun e => by subst e; simp at hj
    show (a.tmps.set i (some d)).get j = _
    rw [Tr.get_set, if_neg this]
def Kept1 (b : CC) (a : AAct) (x : X) : Prop := ∀ j, wrC j b = false → Kept j a x
theorem keep_ops {E : Env} {call : Call} {j : Nat} : ∀ (l : List CO) (a : AAct) (h : H), (l.all fun o => plainO o.op) = true → wrC j (.ops l) = false → Kept j a (Yj E call l a h)
  | [], a, h, _, _ => rfl
  | o :: l, a, h, hp, hw => by
    simp only [List.all_cons, Bool.and_eq_true] at hp
    simp only [wrC, List.any_cons, Bool.or_eq_false_iff] at hw
    simp only [Yj]
    cases ZY a o with
    | false =>
      simp only [cond_false]
      exact (keep_ops l _ h hp.2 hw.2).trans (put_keep hw.1)
    | true =>
      simp only [cond_true]
      obtain ⟨dst, g, op⟩ := o
      obtain ⟨r, hr⟩ : ∃ r, crun E call a op h = r := ⟨_, rfl⟩
      cases op
      all_goals first
        | (cases hp.1; done)
        | (simp only [hr]
           cases r with
           | ok d h' => exact (keep_ops l _ h' hp.2 hw.2).trans (put_keep hw.1)
           | panic d h' => exact rfl
           | fail w => trivial)
theorem keep_code {E : Env} {call : Call} {j : Nat} : ∀ (n : Nat) (c : CC) (a : AAct) (h : H), plainC c = true → wrC j c = false → Kept j a (ZI E call n c a h)
  | 0, c, a, h, _, _ => trivial
  | n + 1, c, a, h, hp, hw => by
    have ih := @keep_code E call j n
    cases c with
    | skip => exact rfl
    | ops l => exact keep_ops l a h hp hw
    | draw x y => cases hp
    | seq x y =>
      simp only [plainC, Bool.and_eq_true] at hp
      simp only [wrC, Bool.or_eq_false_iff] at hw
      have h1 := ih x a h hp.1 hw.1
      simp only [ZI]
      cases hx : ZI E call n x a h with
      | out e a' h' =>
        rw [hx] at h1
        cases e with
        | normal => exact (ih y a' h' hp.2 hw.2).trans h1
        | exit id => exact h1
        | ret => exact h1
      | panic d a' h' => rw [hx] at h1; exact h1
      | fail w => trivial
    | cond o x y =>
      simp only [plainC, Bool.and_eq_true] at hp
      simp only [wrC, Bool.or_eq_false_iff] at hw
      simp only [ZI]
      cases ho : a.eval o with
      | v x' =>
        cases x' with
        | bool b' =>
          cases b' with
          | true => exact ih x a h hp.1 hw.1
          | false => exact ih y a h hp.2 hw.2
        | _ => trivial
      | _ => trivial
    | block id x =>
      have h1 := ih x a h hp hw
      simp only [ZI]
      cases hx : ZI E call n x a h with
      | out e a' h' =>
        rw [hx] at h1
        cases e with
        | normal => exact h1
        | exit k =>
          simp only
          cases Nat.beq k id with
          | true => exact h1
          | false => exact h1
        | ret => exact h1
      | panic d a' h' => rw [hx] at h1; exact h1
      | fail w => trivial
    | loop x =>
      have h1 := ih x a h hp hw
      simp only [ZI]
      cases hx : ZI E call n x a h with
      | out e a' h' =>
        rw [hx] at h1
        cases e with
        | normal => exact (ih (.loop x) a' h' hp hw).trans h1
        | exit id => exact h1
        | ret => exact h1
      | panic d a' h' => rw [hx] at h1; exact h1
      | fail w => trivial
    | exit id => exact rfl
    | ret => exact rfl
    | stop => cases hp
    | back a b c d e f g h' => cases hp
def slOut (E : Env) (call : Call) (k : Nat) (fn : CFn) : X → O D
  | .out (.exit _) _ _ => .fail "exit"
  | .out .normal a h => Xr E call k fn none a h
  | .out .ret a h => Xr E call k fn none a h
  | .panic d a h => Xr E call k fn (some d) a h
  | .fail w => .fail w
def SL (E : Env) (T : Nat → FFn) (fn : CFn) (c : CC) (a : AAct) (h : H) (Q : D → H → Prop) (R : Pan) : Prop :=
  ∃ o, (∃ N, ∀ n m k, N ≤ n → N ≤ m → N ≤ k → slOut E (Yb E T n) k fn (ZI E (Yb E T n) m c a h) = o) ∧ VO Q R o
section
variable {E : Env} {T : Nat → FFn} {t : Tr D} {h : H} {Q : D → H → Prop} {R : Pan} {ds : List D} {fn : CFn}
def seqX (x : X) (k : AAct → H → X) : X :=
  match x with
  | .out .normal a h => k a h
  | .out (.exit i) a h => .out (.exit i) a h
  | .out .ret a h => .out .ret a h
  | .panic d a h => .panic d a h
  | .fail w => .fail w
theorem ccode_seq {call : Call} {n : Nat} {x y : CC} {a : AAct} : ZI E call (n + 1) (.seq x y) a h = seqX (ZI E call n x a h) (fun a h => ZI E call n y a h) := by
  simp only [ZI]
  cases ZI E call n x a h with
  | out e a h => cases e <;> rfl
  | panic d a h => rfl
  | fail w => rfl
theorem vc_slow {f : Nat} {args : List D} (hT : T f = fslow fn) (hs : SL E T fn fn.body (start args none) h Q R) : VC E T f args h Q R := by
  obtain ⟨o, ⟨N, hN⟩, ho⟩ := hs
  refine ⟨o, ⟨N + 1, fun n hn => ?_⟩, ho⟩
  obtain ⟨n, rfl⟩ : ∃ k, n = k + 1 := ⟨n - 1, by omega⟩
  show T f E n (Yb E T n) args h = o
  rw [hT]
  have e := hN n n n (by omega) (by omega) (by omega)
  simp only [fslow]
  cases hx : ZI E (Yb E T n) n fn.body (start args none) h with
  | out x a h' =>
    rw [hx] at e
    cases x <;> exact e
  | panic d a h' => rw [hx] at e; exact e
  | fail w => rw [hx] at e; exact e
theorem sl_seq {a b : CC} {q : FC} (hc : X1 a = q) (hx : VP E T q t h (fun e t' h' => match e with
    | .normal => SL E T fn b (act t') h' Q R
    | .ret => sC (YR fn (act t') h') Q
    | .exit _ => False) R) : SL E T fn (.seq a b) (act t) h Q R := by
  subst hc
  obtain ⟨x, ⟨N, hN⟩, hk⟩ := hx
  have key : ∀ n m, N ≤ n → N ≤ m → Ok x (ZI E (Yb E T n) m a (act t) h) := fun n m hn hm => by
    have := fcode_ok E (Yb E T n) a m t h
    rw [hN n m hn hm] at this
    exact this
  cases x with
  | out e t' h' =>
    cases e with
    | normal =>
      obtain ⟨o, ⟨M, hM⟩, ho⟩ := hk
      refine ⟨o, ⟨N + M + 1, fun n m k hn hm hk => ?_⟩, ho⟩
      obtain ⟨m, rfl⟩ : ∃ k, m = k + 1 := ⟨m - 1, by omega⟩
      have e := key n m (by omega) (by omega)
      simp only [Ok] at e
      rw [ccode_seq, e]
      exact hM n m k (by omega) (by omega) (by omega)
    | exit i => exact hk.elim
    | ret =>
      have hk : sC (YR fn (act t') h') Q := hk
      cases hf : YR fn (act t') h' with
      | ok d h2 =>
        rw [hf] at hk
        refine ⟨.ok d h2, ⟨N + 1, fun n m k hn hm hk2 => ?_⟩, hk⟩
        obtain ⟨m, rfl⟩ : ∃ k, m = k + 1 := ⟨m - 1, by omega⟩
        have e := key n m (by omega) (by omega)
        simp only [Ok] at e
        rw [ccode_seq, e]
        exact hf
      | panic d h2 => rw [hf] at hk; exact hk.elim
      | fail w => rw [hf] at hk; exact hk.elim
  | panic d h' =>
    refine ⟨.panic d h', ⟨N + 1, fun n m k hn hm hk2 => ?_⟩, hk⟩
    obtain ⟨m, rfl⟩ : ∃ k, m = k + 1 := ⟨m - 1, by omega⟩
    obtain ⟨a', e, hd⟩ := key n m (by omega) (by omega)
    rw [ccode_seq, e]
    simp only [seqX, slOut, Xr, hd]
  | fail w => exact hk.elim
theorem cfin_at {a : AAct} (ha : ∀ r ∈ fn.results, ∀ n, (r = .t n ∨ r = .c1 n ∨ ∃ s, r = .cN n s) → a.tmps.get n = t.get n) : YR fn a h = YR fn (act t) h := by
  have key : ∀ l : List CRes, (∀ r ∈ l, ∀ n, (r = .t n ∨ r = .c1 n ∨ ∃ s, r = .cN n s) → a.tmps.get n = t.get n) → X2 a h l = X2 (act t) h l := by
    intro l
    induction l with
    | nil => intro _; rfl
    | cons r l ih =>
      intro hl
      have h1 := ih fun r hr => hl r (List.mem_cons_of_mem _ hr)
      have h2 : ∀ n, (r = .t n ∨ r = .c1 n ∨ ∃ s, r = .cN n s) → a.eval (.t n) = (act t).eval (.t n) := fun n hn => by
        have := hl r (List.mem_cons_self ..) n hn
        simp only [AAct.eval, this]; rfl
      cases r with
      | t n => simp only [X2, h1, h2 n (.inl rfl)]
      | c1 n => simp only [X2, h1, h2 n (.inr (.inl rfl))]
      | cN n s => simp only [X2, h1, h2 n (.inr (.inr ⟨s, rfl⟩))]
  simp only [YR, key fn.results ha]
def DF (E : Env) (T : Nat → FFn) (fn : CFn) (p : Option Nat) (c : CC) (xs : List D) (r : Option D) (t : Tr D) (h : H) (Q : D → H → Prop) : Prop :=
  VP E T (X1 c) ((start xs none).put p (recD r)).tmps h (fun e _ h' => (∀ i, e ≠ .exit i) ∧ sC (YR fn (act t) h') Q) (fun _ _ => False)
theorem df_leave {g : Nat} {xs ys : List D} {p : Option Nat} {c : CC} {r : Option D} (hg : E.dfrs g = some (p, c)) (hd : DF E T fn p c (xs ++ ys) r t h Q) :
    ∃ o, (∃ N, ∀ n k, N ≤ n → N ≤ k → ∀ a : AAct, a.defers = [.func (.func g) xs ys] → (∀ r ∈ fn.results, ∀ n, (r = .t n ∨ r = .c1 n ∨ ∃ s, r = .cN n s) → a.tmps.get n = t.get n) → Xr E (Yb E T n) k fn r a h = o) ∧ VO Q R o := by
  obtain ⟨x, ⟨N, hN⟩, hk⟩ := hd
  cases x with
  | out e t' h' =>
    obtain ⟨he, hq⟩ := hk
    cases hf : YR fn (act t) h' with
    | ok d h2 =>
      rw [hf] at hq
      refine ⟨.ok d h2, ⟨N, fun n k hn hk a ha hr => ?_⟩, hq⟩
      have e1 := fcode_ok E (Yb E T n) c k ((start (xs ++ ys) none).put p (recD r)).tmps h
      rw [hN n k hn hk] at e1
      have e0 : act ((start (xs ++ ys) none).put p (recD r)).tmps = (start (xs ++ ys) none).put p (recD r) := by cases p <;> rfl
      simp only [Ok, e0] at e1
      simp only [Xr, ha, cdefer, hg, e1]
      cases e with
      | normal => simp only [act]; rw [cfin_at hr]; exact hf
      | ret => simp only [act]; rw [cfin_at hr]; exact hf
      | exit i => exact absurd rfl (he i)
    | panic d h2 => rw [hf] at hq; exact hq.elim
    | fail w => rw [hf] at hq; exact hq.elim
  | panic d h' => exact hk.elim
  | fail w => exact hk.elim
def keepB (fn : CFn) (b : CC) : Bool := fn.results.all fun r => match r with
  | .t n => !wrC n b
  | .c1 n => !wrC n b
  | .cN n _ => !wrC n b
theorem sl_dfr {i g : Nat} {fs cs : List Opd} {xs ys : List D} {b : CC} {q : FC} {p : Option Nat} {c : CC} (hb : plainC b = true) (hkb : keepB fn b = true) (hki : keepB fn (.ops [⟨some i, none, .mv (.t i)⟩]) = true) (hc : X1 b = q) (hg : E.dfrs g = some (p, c)) (hxs : (act t).evals fs = xs) (hys : (act t).evals cs = ys)
    (hx : VP E T q (t.set i (some (.func (.func g) xs ys))) h (fun e t' h' => (∀ i, e ≠ .exit i) ∧ DF E T fn p c (xs ++ ys) none t h' Q) (fun d h' => DF E T fn p c (xs ++ ys) (some d) t h' Q)) :
    SL E T fn (.seq (.ops [⟨some i, none, .mkf (.func g) fs cs⟩, ⟨none, none, .dfr (.t i)⟩]) b) (act t) h Q R := by
  subst hc hxs hys
  obtain ⟨x, ⟨N, hN⟩, hk⟩ := hx
  have e0 : ∀ (call : Call) (m : Nat), ZI E call (m + 1) (.ops [⟨some i, none, .mkf (.func g) fs cs⟩, ⟨none, none, .dfr (.t i)⟩]) (act t) h = .out .normal (AAct.at (t.set i (some (.func (.func g) ((act t).evals fs) ((act t).evals cs)))) [.func (.func g) ((act t).evals fs) ((act t).evals cs)]) h := by
    intro call m
    have e1 : ((act t).put (some i) (.func (.func g) ((act t).evals fs) ((act t).evals cs))).eval (.t i) = .func (.func g) ((act t).evals fs) ((act t).evals cs) := by
      simp only [AAct.put, AAct.eval, Tr.get_set, if_true]
    simp only [ZI, Yj, ZY, cond_true, crun, den, r_mkf, e1]
    rfl
  have hres : ∀ a : AAct, (∀ j, wrC j b = false → a.tmps.get j = (t.set i (some (D.func (.func g) ((act t).evals fs) ((act t).evals cs)))).get j) → ∀ r ∈ fn.results, ∀ n, (r = .t n ∨ r = .c1 n ∨ ∃ s, r = .cN n s) → a.tmps.get n = t.get n := by
    intro a ha r hr n hn
    have h1 := List.all_eq_true.1 hkb r hr
    have h2 := List.all_eq_true.1 hki r hr
    have h3 : wrC n b = false ∧ wrC n (.ops [⟨some i, none, .mv (.t i)⟩]) = false := by
      rcases hn with rfl | rfl | ⟨s, rfl⟩ <;> exact ⟨by simpa using h1, by simpa using h2⟩
    rw [ha n h3.1, Tr.get_set]
    have : ¬ n = i := fun e => by
      subst e
      have := h3.2
      simp [wrC] at this
    rw [if_neg this]
  have hkp : ∀ (n m : Nat), Kept1 b (AAct.at (t.set i (some (D.func (.func g) ((act t).evals fs) ((act t).evals cs)))) [.func (.func g) ((act t).evals fs) ((act t).evals cs)]) (ZI E (Yb E T n) m b (AAct.at (t.set i (some (D.func (.func g) ((act t).evals fs) ((act t).evals cs)))) [.func (.func g) ((act t).evals fs) ((act t).evals cs)]) h) := fun n m j hj => keep_code m b _ h hb hj
  have hrd : ∀ (n m : Nat), Ride [.func (.func g) ((act t).evals fs) ((act t).evals cs)] (ZI E (Yb E T n) m b (act (t.set i (some (D.func (.func g) ((act t).evals fs) ((act t).evals cs))))) h) (ZI E (Yb E T n) m b (AAct.at (t.set i (some (D.func (.func g) ((act t).evals fs) ((act t).evals cs)))) [.func (.func g) ((act t).evals fs) ((act t).evals cs)]) h) := fun n m => ride_code m b _ h hb
  have key : ∀ n m, N ≤ n → N ≤ m → Ok x (ZI E (Yb E T n) m b (act (t.set i (some (D.func (.func g) ((act t).evals fs) ((act t).evals cs))))) h) := fun n m hn hm => by
    have := fcode_ok E (Yb E T n) b m (t.set i (some (D.func (.func g) ((act t).evals fs) ((act t).evals cs)))) h
    rw [hN n m hn hm] at this
    exact this
  cases x with
  | out e t' h' =>
    obtain ⟨he, hd⟩ := hk
    obtain ⟨o, ⟨M, hM⟩, ho⟩ := df_leave (R := R) hg hd
    refine ⟨o, ⟨N + M + 2, fun n m k hn hm hk => ?_⟩, ho⟩
    obtain ⟨m, rfl⟩ : ∃ k, m = k + 2 := ⟨m - 2, by omega⟩
    have e1 := hrd n (m + 1)
    have e2 := hkp n (m + 1)
    rw [key n (m + 1) (by omega) (by omega)] at e1
    obtain ⟨t2, _, e3⟩ := e1
    rw [e3] at e2
    have e4 := hres _ fun j hj => e2 j hj
    rw [ccode_seq, e0]
    show slOut E (Yb E T n) k fn (ZI E (Yb E T n) (m + 1) b _ h) = o
    rw [e3]
    cases e with
    | normal => exact hM n k (by omega) (by omega) _ rfl e4
    | ret => exact hM n k (by omega) (by omega) _ rfl e4
    | exit i => exact absurd rfl (he i)
  | panic d h' =>
    obtain ⟨o, ⟨M, hM⟩, ho⟩ := df_leave (R := R) hg hk
    refine ⟨o, ⟨N + M + 2, fun n m k hn hm hk => ?_⟩, ho⟩
    obtain ⟨m, rfl⟩ : ∃ k, m = k + 2 := ⟨m - 2, by omega⟩
    have e1 := hrd n (m + 1)
    have e2 := hkp n (m + 1)
    obtain ⟨a0, ea, _⟩ := key n (m + 1) (by omega) (by omega)
    rw [ea] at e1
    obtain ⟨a', e3, e5⟩ := e1
    rw [e3] at e2
    have e4 := hres _ fun j hj => e2 j hj
    rw [ccode_seq, e0]
    show slOut E (Yb E T n) k fn (ZI E (Yb E T n) (m + 1) b _ h) = o
    rw [e3]
    exact hM n k (by omega) (by omega) _ e5 e4
  | fail w => exact hk.elim
end
end Go.Abs
namespace Go.Abs
section
variable {E : Env} {T : Nat → FFn} {p : D → Tr D → Tr D} {k : FR} {kd : FD} {recs : List Rec} {t : Tr D} {h : H} {Q : Aft} {R : Pan}
def oTas (ty : TypeId) (z : D) (ok : Bool) (d : D) (h : H) : O D :=
  match d with
  | .v .nilIface => bif ok then .ok (.tup [z, .v (.bool false)]) h else .fail "typeAssert"
  | .iface u d => bif Nat.beq u ty then .ok (bif ok then .tup [d, .v (.bool true)] else d) h else
      bif ok then .ok (.tup [z, .v (.bool false)]) h else .fail "typeAssert"
  | _ => .fail "typeAssert"
theorem vr_tas {ty : TypeId} {z : D} {ok : Bool} {g : Tr D → D} : VR E T (fo (u1 (fun x => r_tas ty z x ok) g) p k) t h Q R ↔ vO E T (oTas ty z ok (g t) h) p k t Q R := by
  rw [show oTas ty z ok (g t) h = (u1 (fun x => r_tas ty z x ok) g) E Yx t h by
    cases hg : g t <;> first | (simp only [oTas, u1, r_tas, AAct.eval, hg]; done) | (rename_i x; cases x <;> simp only [oTas, u1, r_tas, AAct.eval, hg])]
  exact YP fun _ => rfl
theorem oTas_yes {ty : TypeId} {z d : D} : oTas ty z true (.iface ty d) h = .ok (.tup [d, .v (.bool true)]) h := by
  simp only [oTas, Nat.beq_refl, cond_true]
def oOnly (a : Option (List D)) : Option D :=
  match a with
  | some [x] => some x
  | _ => none
def oFin2 (a b : Option D) (h : H) : O D :=
  match a with
  | some x => match b with
    | some y => .ok (.tup [x, y]) h
    | none => .fail "results"
  | none => .fail "results"
def oFin3 (a : Option D) (b : Option (List D)) (c : Option D) (h : H) : O D :=
  match a with
  | some x => match b with
    | some ys => match c with
      | some z => .ok (.tup [x, .agg ys, z]) h
      | none => .fail "results"
    | none => .fail "results"
  | none => .fail "results"
theorem oOnly_one {x : D} : oOnly (some [x]) = some x := rfl
theorem oFin2_some {x y : D} : oFin2 (some x) (some y) h = .ok (.tup [x, y]) h := rfl
theorem oFin3_some {x z : D} {ys : List D} : oFin3 (some x) (some ys) (some z) h = .ok (.tup [x, .agg ys, z]) h := rfl
theorem cfin_two2 {n m : Nat} {c : CC} : YR ⟨[.c1 n, .c1 m], c⟩ (act t) h = oFin2 (oOnly (Za h (Gt n t) 1)) (oOnly (Za h (Gt m t) 1)) h := by
  simp only [YR, X2, Gt, geq]
  rcases Za h ((act t).eval (.t n)) 1 with _ | ⟨_ | ⟨x, _ | ⟨y, r⟩⟩⟩ <;> rcases Za h ((act t).eval (.t m)) 1 with _ | ⟨_ | ⟨x2, _ | ⟨y2, r2⟩⟩⟩ <;> rfl
theorem cfin_thr {n m s l : Nat} {c : CC} : YR ⟨[.c1 n, .cN m s, .c1 l], c⟩ (act t) h = oFin3 (oOnly (Za h (Gt n t) 1)) (Za h (Gt m t) s) (oOnly (Za h (Gt l t) 1)) h := by
  simp only [YR, X2, Gt, geq]
  rcases Za h ((act t).eval (.t n)) 1 with _ | ⟨_ | ⟨x, _ | ⟨y, r⟩⟩⟩ <;> rcases Za h ((act t).eval (.t m)) s with _ | ys <;> rcases Za h ((act t).eval (.t l)) 1 with _ | ⟨_ | ⟨x2, _ | ⟨y2, r2⟩⟩⟩ <;> rfl
end
end Go.Abs
