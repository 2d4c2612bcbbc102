/- The quick code, run by rules: for what is not closed. -/
import Derived.Test.YthifolidfjpdkaaGreatDoorNdFast
set_option linter.unusedVariables false
set_option linter.unusedSimpArgs false
namespace Go.Abs
noncomputable section
section
variable {E : Env} {T : Nat → ZV}
def Ev (E : Env) (T : Nat → ZV) (f : Nat) (args : List D) (h : H) (o : O D) : Prop := ∃ N,∀ n,N ≤ n → ZI E T n f args h = o
def Zbk (E : Env) (T : Nat → ZV) (c : FC) (t : Tr D) (h : H) (x : XT) : Prop := ∃ N,∀ n m,N ≤ n → N ≤ m → c E (ZI E T n) m t h = x
def Zwa (E : Env) (T : Nat → ZV) (r : FR) (t : Tr D) (h : H) (x : XT) : Prop := ∃ N,∀ n,N ≤ n → r E (ZI E T n) t h = x
def Zl8 (E : Env) (T : Nat → ZV) (r : FD) (recs : List Rec) (t : Tr D) (h : H) (x : XT) : Prop := ∃ N,∀ n,N ≤ n → r E (ZI E T n) recs t h = x
theorem Zqm {t : Tr D} {h : H} : Zbk E T Zx t h (.out .normal t h) := ⟨1,fun n m hn hm => by cases m with
  | zero => omega
  | succ m => rfl⟩
theorem Zqo {id : Nat} {t : Tr D} {h : H} : Zbk E T (Vi id) t h (.out (.exit id) t h) := ⟨1,fun n m hn hm => by cases m with
  | zero => omega
  | succ m => rfl⟩
theorem Zub {t : Tr D} {h : H} : Zbk E T Zv t h (.out .ret t h) := ⟨1,fun n m hn hm => by cases m with
  | zero => omega
  | succ m => rfl⟩
theorem Z29 {r : FR} {t : Tr D} {h : H} {x : XT} (hr : Zwa E T r t h x) : Zbk E T (Z1 r) t h x := by
  obtain ⟨N,hN⟩ := hr
  refine ⟨N + 1,fun n m hn hm => ?_⟩
  cases m with
  | zero => omega
  | succ m => exact hN n (by omega)
theorem Z0d {r : FD} {t : Tr D} {h : H} {x : XT} (hr : Zl8 E T r [] t h x) : Zbk E T (Xf r) t h x := by
  obtain ⟨N,hN⟩ := hr
  refine ⟨N + 1,fun n m hn hm => ?_⟩
  cases m with
  | zero => omega
  | succ m => exact hN n (by omega)
theorem Zua {a b : FC} {t t1 : Tr D} {h h1 : H} {x : XT} (ha : Zbk E T a t h (.out .normal t1 h1)) (hb : Zbk E T b t1 h1 x) : Zbk E T (Z0 a b) t h x := by
  obtain ⟨N,hN⟩ := ha
  obtain ⟨M,hM⟩ := hb
  refine ⟨N + M + 1,fun n m hn hm => ?_⟩
  cases m with
  | zero => omega
  | succ m =>
    show XT.casesOn (motive := fun _ => XT) (a E (ZI E T n) m t h) _ _ _ = x
    rw [hN n m (by omega) (by omega)]
    exact hM n m (by omega) (by omega)
def Z4k : AExit → Prop
  | .normal => False
  | _ => True
theorem Zdl {a b : FC} {t t1 : Tr D} {h h1 : H} {e : AExit} (ha : Zbk E T a t h (.out e t1 h1)) (he : Z4k e) : Zbk E T (Z0 a b) t h (.out e t1 h1) := by
  obtain ⟨N,hN⟩ := ha
  refine ⟨N + 1,fun n m hn hm => ?_⟩
  cases m with
  | zero => omega
  | succ m =>
    show XT.casesOn (motive := fun _ => XT) (a E (ZI E T n) m t h) _ _ _ = _
    rw [hN n m (by omega) (by omega)]
    cases e with
    | normal => exact he.elim
    | exit id => rfl
    | ret => rfl
theorem Zib {g : Tr D → D} {a b : FC} {t : Tr D} {h : H} {x : XT} (v : Bool) (hg : g t = .v (.bool v)) (hx : Zbk E T (bif v then a else b) t h x) : Zbk E T (Zg g a b) t h x := by
  obtain ⟨N,hN⟩ := hx
  refine ⟨N + 1,fun n m hn hm => ?_⟩
  cases m with
  | zero => omega
  | succ m =>
    have := hN n m (by omega) (by omega)
    simp only [Zg,hg]
    cases v <;> exact this
def Zpl (id : Nat) : AExit → AExit
  | .exit k => bif Nat.beq k id then .normal else .exit k
  | e => e
theorem Zny {a : FC} {id : Nat} {t t1 : Tr D} {h h1 : H} {e : AExit} (ha : Zbk E T a t h (.out e t1 h1)) : Zbk E T (ZA id a) t h (.out (Zpl id e) t1 h1) := by
  obtain ⟨N,hN⟩ := ha
  refine ⟨N + 1,fun n m hn hm => ?_⟩
  cases m with
  | zero => omega
  | succ m =>
    show XT.casesOn (motive := fun _ => XT) (a E (ZI E T n) m t h) _ _ _ = _
    rw [hN n m (by omega) (by omega)]
    cases e with
    | normal => rfl
    | exit k => simp only [Zpl]; cases Nat.beq k id <;> rfl
    | ret => rfl
theorem Zqn {a : FC} {t t1 : Tr D} {h h1 : H} {x : XT} (ha : Zbk E T a t h (.out .normal t1 h1)) (hx : Zbk E T (Xy a) t1 h1 x) : Zbk E T (Xy a) t h x := by
  obtain ⟨N,hN⟩ := ha
  obtain ⟨M,hM⟩ := hx
  refine ⟨N + M + 1,fun n m hn hm => ?_⟩
  cases m with
  | zero => omega
  | succ m =>
    simp only [Zgr]
    rw [hN n m (by omega) (by omega)]
    exact hM n m (by omega) (by omega)
theorem Zb6 {a : FC} {t t1 : Tr D} {h h1 : H} {e : AExit} (ha : Zbk E T a t h (.out e t1 h1)) (he : Z4k e) : Zbk E T (Xy a) t h (.out e t1 h1) := by
  obtain ⟨N,hN⟩ := ha
  refine ⟨N + 1,fun n m hn hm => ?_⟩
  cases m with
  | zero => omega
  | succ m =>
    simp only [Zgr]
    rw [hN n m (by omega) (by omega)]
    cases e with
    | normal => exact he.elim
    | exit id => rfl
    | ret => rfl
theorem Z3a {t : Tr D} {h : H} : Zwa E T Z2 t h (.out .normal t h) := ⟨0,fun n _ => rfl⟩
theorem Z3b {recs : List Rec} {t : Tr D} {h : H} : Zl8 E T Xg recs t h (.out .normal t h) := ⟨0,fun n _ => rfl⟩
theorem Z7h {f : Zcz} {p : D → Tr D → Tr D} {k : FR} {t : Tr D} {h h1 : H} {d : D} {x : XT} (hf : ∀ call,f E call t h = .ok d h1) (hk : Zwa E T k (p d t) h1 x) : Zwa E T (fo f p k) t h x := by
  obtain ⟨N,hN⟩ := hk
  refine ⟨N,fun n hn => ?_⟩
  show O.casesOn (motive := fun _ => XT) (f E (ZI E T n) t h) _ _ _ = x
  rw [hf]
  exact hN n hn
theorem Z0e {f : Nat} {gs : List (Tr D → D)} {p : D → Tr D → Tr D} {k : FR} {t : Tr D} {h h1 : H} {d : D} {x : XT} (hf : Ev E T f (Zky gs t) h (.ok d h1)) (hk : Zwa E T k (p d t) h1 x) : Zwa E T (fo (Zw f gs) p k) t h x := by
  obtain ⟨N,hN⟩ := hk
  obtain ⟨M,hM⟩ := hf
  refine ⟨N + M,fun n hn => ?_⟩
  show O.casesOn (motive := fun _ => XT) (ZI E T n f (Zky gs t) h) _ _ _ = x
  rw [hM n (by omega)]
  exact hN n (by omega)
theorem Z7i {f : Zcz} {p : D → Tr D → Tr D} {k : FD} {recs : List Rec} {t : Tr D} {h h1 : H} {d : D} {x : XT} (hf : ∀ call,f E call t h = .ok d h1) (hk : Zl8 E T k recs (p d t) h1 x) : Zl8 E T (Ze f p k) recs t h x := by
  obtain ⟨N,hN⟩ := hk
  refine ⟨N,fun n hn => ?_⟩
  show O.casesOn (motive := fun _ => XT) (f E (ZI E T n) t h) _ _ _ = x
  rw [hf]
  exact hN n hn
theorem Z0f {i n : Nat} {inc : List Nat} {g : Tr D → D} {f : Zcz} {p : D → Tr D → Tr D} {k : FD} {recs : List Rec} {t : Tr D} {h h1 : H} {d : D} {cs : List D} {x : XT} (hf : ∀ call,f E call t h = .ok d h1) (hc : Z3 h (g t) n = some cs) (ho : XA inc (g t) cs recs = true)
    (hk : Zl8 E T k (.rd i (g t) cs :: recs) (p d t) h1 x) : Zl8 E T (Xw i inc n g f p k) recs t h x := by
  obtain ⟨N,hN⟩ := hk
  refine ⟨N,fun m hm => ?_⟩
  show O.casesOn (motive := fun _ => XT) (f E (ZI E T m) t h) _ _ _ = x
  rw [hf]
  simp only [Zct,Zgb,Z6d,hc,ho,cond_true]
  exact hN m hm
theorem Z0g {i : Nat} {inc : List Nat} {f : Zcz} {p : D → Tr D → Tr D} {k : FD} {recs : List Rec} {t : Tr D} {h h1 : H} {d : D} {x : XT} (hf : ∀ call,f E call t h = .ok d h1) (ho : YJ inc h1 recs = true)
    (hk : Zl8 E T k (.loud i h :: recs) (p d t) h1 x) : Zl8 E T (Zg8 i inc f p k) recs t h x := by
  obtain ⟨N,hN⟩ := hk
  refine ⟨N,fun m hm => ?_⟩
  show O.casesOn (motive := fun _ => XT) (f E (ZI E T m) t h) _ _ _ = x
  rw [hf]
  simp only [Zfe,ho,cond_true]
  exact hN m hm
theorem Z0h {i : Nat} {inc : List Nat} {f : Nat} {gs : List (Tr D → D)} {p : D → Tr D → Tr D} {k : FD} {recs : List Rec} {t : Tr D} {h h1 : H} {d : D} {x : XT} (hf : Ev E T f (Zky gs t) h (.ok d h1)) (ho : YJ inc h1 recs = true)
    (hk : Zl8 E T k (.loud i h :: recs) (p d t) h1 x) : Zl8 E T (Zg8 i inc (Zw f gs) p k) recs t h x := by
  obtain ⟨N,hN⟩ := hk
  obtain ⟨M,hM⟩ := hf
  refine ⟨N + M,fun m hm => ?_⟩
  show O.casesOn (motive := fun _ => XT) (ZI E T m f (Zky gs t) h) _ _ _ = x
  rw [hM m (by omega)]
  simp only [Zfe,ho,cond_true]
  exact hN m (by omega)
def ends : AExit → Prop
  | .exit _ => False
  | _ => True
theorem ev_fn {f : Nat} {ss : List (D → Tr D → Tr D)} {res : Tr D → H → O D} {body : FC} {args : List D} {h h1 : H} {t1 : Tr D} {e : AExit} {o : O D} (hT : T f = Zbg ss res body) (hb : Zbk E T body (Zef 0 ss args .nil) h (.out e t1 h1)) (he : ends e) (ho : res t1 h1 = o) : Ev E T f args h o := by
  obtain ⟨N,hN⟩ := hb
  refine ⟨N + 1,fun n hn => ?_⟩
  cases n with
  | zero => omega
  | succ n =>
    show T f E n (ZI E T n) args h = o
    rw [hT]
    show XT.casesOn (motive := fun _ => O D) (body E (ZI E T n) n (Zef 0 ss args .nil) h) _ _ _ = o
    rw [hN n n (by omega) (by omega)]
    cases e with
    | normal => exact ho
    | exit id => exact he.elim
    | ret => exact ho
theorem ev_lib {f : Nat} {g : List D → H → O D} {args : List D} {h : H} {o : O D} (hT : T f = YK g) (ho : g args h = o) : Ev E T f args h o :=
  ⟨1,fun n hn => by
    cases n with
    | zero => omega
    | succ n => show T f E n (ZI E T n) args h = o; rw [hT]; exact ho⟩
def Gt (i : Nat) (t : Tr D) : D := gF (i + 1) i t
def St (j : Nat) (v : D) (t : Tr D) : Tr D := pF (j + 1) j v t
theorem Zah (i j : Nat) (v : D) (t : Tr D) : Gt i (St j v t) = if i = j then v else Gt i t := by
  simp only [Gt,St,Zra _ _ _ (Nat.lt_succ_self i),Zoi]
  show Z4y ((t.set j (some v)).get i) = _
  rw [Tr.get_set]
  split <;> rfl
theorem Zde (v : D) (t : Tr D) : p0 v t = t := rfl
theorem Zdi (d : D) (t : Tr D) : kD d t = d := rfl
theorem YE {h : H} {o : AObj} {l : Nat} (e : l = h.next) : hget (Vr h o).mem l = some o := by
  subst e
  simp only [Vr,ZO,Zik,Tr.get_set,if_true]
theorem Y2 {h : H} {o : AObj} {l : Nat} (a : l < h.next + 1) (b : ¬ l < h.next) : hget (Vr h o).mem l = some o := YE (by omega)
theorem Zi {h : H} {o : AObj} {l : Nat} (e : l ≠ h.next) : hget (Vr h o).mem l = hget h.mem l := by
  simp only [Vr,ZO,Zik,Tr.get_set,if_neg e]
theorem VU {h : H} {o : AObj} {l k : Nat} (e : l = k) : hget (YF h k o).mem l = some o := by
  subst e
  simp only [YF,ZO,Zik,Tr.get_set,if_true]
theorem Zb {h : H} {o : AObj} {k : Nat} : hget (YF h k o).mem k = some o := VU rfl
theorem Z9 {h : H} {o : AObj} {l k : Nat} (e : l ≠ k) : hget (YF h k o).mem l = hget h.mem l := by
  simp only [YF,ZO,Zik,Tr.get_set,if_neg e]
theorem Z8 (h : H) (o : AObj) : (Vr h o).next = h.next + 1 := rfl
theorem Z7 (h : H) (l : Nat) (o : AObj) : (YF h l o).next = h.next := rfl
end
end
end Go.Abs
namespace Go.Abs
noncomputable section
section
variable {E : Env} {T : Nat → ZV}
abbrev UU := AExit → Tr D → H → Prop
def WP (E : Env) (T : Nat → ZV) (c : FC) (t : Tr D) (h : H) (Q : UU) : Prop := ∃ e t' h',Zbk E T c t h (.out e t' h') ∧ Q e t' h'
def WD (E : Env) (T : Nat → ZV) (r : FD) (recs : List Rec) (t : Tr D) (h : H) (Q : UU) : Prop := ∃ e t' h',Zl8 E T r recs t h (.out e t' h') ∧ Q e t' h'
def WC (E : Env) (T : Nat → ZV) (f : Nat) (args : List D) (h : H) (Q : D → H → Prop) : Prop := ∃ d h',Ev E T f args h (.ok d h') ∧ Q d h'
def Zu : Call := fun _ _ _ => .fail ""
def Kseq (E : Env) (T : Nat → ZV) (b : FC) (Q : UU) : UU := fun e t h =>
  match e with
  | .normal => WP E T b t h Q
  | .exit i => Q (.exit i) t h
  | .ret => Q .ret t h
def Z1x (id : Nat) (Q : UU) : UU := fun e t h => Q (Zpl id e) t h
def sR (E : Env) (T : Nat → ZV) (o : O D) (c : Option (List D)) (i : Nat) (inc : List Nat) (a : D) (p : D → Tr D → Tr D) (k : FD) (recs : List Rec) (t : Tr D) (Q : UU) : Prop :=
  match o,c with
  | .ok d h,some cs => XA inc a cs recs = true ∧ WD E T k (.rd i a cs :: recs) (p d t) h Q
  | _,_ => False
def sL (E : Env) (T : Nat → ZV) (o : O D) (i : Nat) (inc : List Nat) (h0 : H) (p : D → Tr D → Tr D) (k : FD) (recs : List Rec) (t : Tr D) (Q : UU) : Prop :=
  match o with
  | .ok d h => YJ inc h recs = true ∧ WD E T k (.loud i h0 :: recs) (p d t) h Q
  | _ => False
def sB (E : Env) (T : Nat → ZV) (d : D) (a b : FC) (t : Tr D) (h : H) (Q : UU) : Prop :=
  match d with
  | .v (.bool v) => bif v then WP E T a t h Q else WP E T b t h Q
  | _ => False
def sC (o : O D) (Q : D → H → Prop) : Prop :=
  match o with
  | .ok d h => Q d h
  | _ => False
theorem UJ {id : Nat} {Q : UU} {t : Tr D} {h : H} : Z1x id Q .normal t h ↔ Q .normal t h := Iff.rfl
theorem UI {id : Nat} {Q : UU} {t : Tr D} {h : H} : Z1x id Q .ret t h ↔ Q .ret t h := Iff.rfl
theorem UK {id i : Nat} {Q : UU} {t : Tr D} {h : H} : Z1x id Q (.exit i) t h ↔ Q (bif Nat.beq i id then .normal else .exit i) t h := Iff.rfl
theorem Zda {d : D} {h : H} {Q : D → H → Prop} : sC (.ok d h) Q ↔ Q d h := Iff.rfl
theorem WC.mono {f : Nat} {args : List D} {h : H} {Q Q' : D → H → Prop} (hc : WC E T f args h Q) (hq : ∀ d h',Q d h' → Q' d h') : WC E T f args h Q' := by
  obtain ⟨d,h1,he,h2⟩ := hc
  exact ⟨d,h1,he,hq _ _ h2⟩
theorem wp_skip {t : Tr D} {h : H} {Q : UU} (hq : Q .normal t h) : WP E T Zx t h Q := ⟨_,_,_,Zqm,hq⟩
theorem wp_exit {i : Nat} {t : Tr D} {h : H} {Q : UU} (hq : Q (.exit i) t h) : WP E T (Vi i) t h Q := ⟨_,_,_,Zqo,hq⟩
theorem wp_ret {t : Tr D} {h : H} {Q : UU} (hq : Q .ret t h) : WP E T Zv t h Q := ⟨_,_,_,Zub,hq⟩
theorem wp_seq {a b : FC} {t : Tr D} {h : H} {Q : UU} (hq : WP E T a t h (Kseq E T b Q)) : WP E T (Z0 a b) t h Q := by
  obtain ⟨e,t1,h1,hr,hq⟩ := hq
  cases e with
  | normal =>
    obtain ⟨e,t',h',hr',hq⟩ := hq
    exact ⟨_,_,_,Zua hr hr',hq⟩
  | exit i => exact ⟨_,_,_,Zdl hr trivial,hq⟩
  | ret => exact ⟨_,_,_,Zdl hr trivial,hq⟩
theorem wp_block {a : FC} {id : Nat} {t : Tr D} {h : H} {Q : UU} (hq : WP E T a t h (Z1x id Q)) : WP E T (ZA id a) t h Q := by
  obtain ⟨e,t1,h1,hr,hq⟩ := hq
  exact ⟨_,_,_,Zny hr,hq⟩
theorem wp_cond {g : Tr D → D} {a b : FC} {t : Tr D} {h : H} {Q : UU} (hq : sB E T (g t) a b t h Q) : WP E T (Zg g a b) t h Q := by
  unfold sB at hq
  split at hq
  · rename_i v hv
    cases v with
    | true =>
      obtain ⟨e,t',h',hr,hq⟩ := hq
      exact ⟨_,_,_,Zib true hv hr,hq⟩
    | false =>
      obtain ⟨e,t',h',hr,hq⟩ := hq
      exact ⟨_,_,_,Zib false hv hr,hq⟩
  · exact hq.elim
end
end
end Go.Abs
namespace Go.Abs
noncomputable section
theorem Zb5 {m n : Nat} (h : m ≤ n) : Nat.ble m n = true := by rw [Nat.ble_eq]; exact h
section
variable {E : Env} {T : Nat → ZV} {p : D → Tr D → Tr D} {k : FR} {kd : FD} {recs : List Rec} {t : Tr D} {h : H} {Q : UU} {g g1 g2 g3 : Tr D → D} {i : Nat} {inc : List Nat}
def oFa (n : Nat) (d : D) (h : H) : O D :=
  match d with
  | .ptr l o => .ok (.ptr l (o + n)) h
  | .ep cs => .ok (.ep (cs.drop n)) h
  | _ => .fail "fieldAddr"
theorem V4 {n l o : Nat} : oFa n (.ptr l o) h = .ok (.ptr l (o + n)) h := rfl
theorem UA {n : Nat} {cs : List D} : oFa n (.ep cs) h = .ok (.ep (cs.drop n)) h := rfl
def Z36 (d : D) (h : H) : O D :=
  match d with
  | .ptr l off => .ok (.ptr l off) h
  | .ep cs => .ok (.ep cs) h
  | .func (.func f) x y => .ok (.func (.func f) x y) h
  | .v (.func (.func f) x y) => .ok (.v (.func (.func f) x y)) h
  | _ => .fail "nil"
theorem XU {l o : Nat} : Z36 (.ptr l o) h = .ok (.ptr l o) h := rfl
theorem V1 {cs : List D} : Z36 (.ep cs) h = .ok (.ep cs) h := rfl
def Zhp (d : D) (h : H) : O D :=
  match d with
  | .sl _ n _ => .ok (.int .i64 (.ofNat n)) h
  | .row _ _ n _ => .ok (.int .i64 (.ofNat n)) h
  | .v (.slice none 0 0) => .ok (.int .i64 (.ofNat 0)) h
  | _ => .fail "len"
theorem V3 {id n : Nat} {cs : List D} : Zhp (.sl id n cs) h = .ok (.int .i64 (.ofNat n)) h := rfl
theorem XV {l o n c : Nat} : Zhp (.row l o n c) h = .ok (.int .i64 (.ofNat n)) h := rfl
theorem XW : Zhp (.v (.slice none 0 0)) h = .ok (.int .i64 (.ofNat 0)) h := rfl
def Z0s (i : Nat) (d : D) (h : H) : O D :=
  match d with
  | .tup ds => Zbl (ds[i]?) h "extract"
  | _ => .fail "extract"
theorem UD {a : D} {r : List D} : Z0s 0 (.tup (a :: r)) h = .ok a h := rfl
theorem UC {a b : D} {r : List D} : Z0s 1 (.tup (a :: b :: r)) h = .ok b h := rfl
theorem UB {a b c : D} {r : List D} : Z0s 2 (.tup (a :: b :: c :: r)) h = .ok c h := rfl
def oNot (E : Env) (d : D) (h : H) : O D := Ze7 .not (.d d) E Zu (act .nil) h
theorem YX {b : Bool} : oNot E (.v (.bool b)) h = .ok (.v (.bool !b)) h := by cases b <;> rfl
def Zci (size : Nat) (x i : D) (h : H) : O D := Zbl (Zed size x i) h "index: slice"
theorem UT {size id n i : Nat} {kk : IntKind} {cs : List D} {c : D} {r : List D} (hi : i < n) (hc : cs.drop (i * size) = c :: r) : Zci size (.sl id n cs) (.int kk (.ofNat i)) h = .ok (.ep (c :: r)) h := by
  have : Nat.blt i n = true := by rw [Xz]; exact decide_eq_true hi
  simp only [Zci,Zed,U9,this,cond_true,hc,Zbl]
theorem Zch {size l o n c i : Nat} {kk : IntKind} (hi : i < n) : Zci size (.row l o n c) (.int kk (.ofNat i)) h = .ok (.ptr l (o + i * size)) h := by
  have : Nat.blt i n = true := by rw [Xz]; exact decide_eq_true hi
  simp only [Zci,Zed,U9,this,cond_true,Zbl]
def Z0q (size : Nat) (x : D) (hi : D) (h : H) : O D := Zbl (Zk2 size x none (some hi)) h "slice"
theorem Wg {size : Nat} : Z0q size (.v (.slice none 0 0)) (.int .i64 (.ofNat 0)) h = .ok (.v (.slice none 0 0)) h := rfl
def Zjr (size id n : Nat) (cs : List D) (m : Nat) : D := bif Nat.beq m n then .sl id n cs else .sl 0 m (cs.take (m * size))
theorem Zsl {size id n m : Nat} {cs : List D} (hm : m ≤ n) : Z0q size (.sl id n cs) (.int .i64 (.ofNat m)) h = .ok (Zjr size id n cs m) h := by
  have h1 : Nat.ble m n = true := Zb5 hm
  have h3 : Nat.beq 0 0 = true := rfl
  simp only [Z0q,Zk2,Wh,Z06,Z6e,h1,cond_true,Nat.zero_mul,List.drop_zero,Nat.sub_zero,Zjr,h3,Bool.true_and]
  cases Nat.beq m n <;> rfl
def oRd (o : Option AObj) (off n : Nat) : Option (List D) :=
  match o with
  | some (.cells _ cs) => bif Nat.beq ((cs.drop off).take n).length n then some ((cs.drop off).take n) else none
  | _ => none
theorem Uy {l off n : Nat} : Z3 h (.ptr l off) n = oRd (hget h.mem l) off n := by
  rw [ZO]; rfl
def Zps (cs : List D) (n : Nat) : Option (List D) := bif Nat.beq (cs.take n).length n then some (cs.take n) else none
theorem Zdd {cs : List D} {n : Nat} : Z3 h (.ep cs) n = Zps cs n := rfl
theorem oRd_at {ty : TypeId} {cs xs : List D} {off n : Nat} (hx : (cs.drop off).take n = xs) (hn : xs.length = n) : oRd (some (.cells ty cs)) off n = some xs := by
  simp only [oRd,hx,hn,Nat.beq_refl,cond_true]
def Zy0 (o : Option (List D)) (h : H) : O D :=
  match o with
  | some [d] => .ok d h
  | _ => .fail "load"
def Zyz (o : Option (List D)) (h : H) : O D :=
  match o with
  | some cs => .ok (.agg cs) h
  | none => .fail "loadN"
theorem X0 {d : D} : Zy0 (some [d]) h = .ok d h := rfl
theorem YZ {cs : List D} : Zyz (some cs) h = .ok (.agg cs) h := rfl
theorem Z43 : Zl g E Zu t h = Zy0 (Z3 h (g t) 1) h := Zzf g E Zu t h (.d (g t)) rfl
theorem Z42 {n : Nat} : YB n g E Zu t h = Zyz (Z3 h (g t) n) h := Zze n g E Zu t h (.d (g t)) rfl
def oSt (n : Nat) (a x : D) (h : H) : O D :=
  match a with
  | .ptr l off => match hget h.mem l with
    | some (.cells ty cs) =>
      bif Nat.beq x.cells.length n && Y4 x.cells then
        match patch cs off x.cells with
        | some cs => .ok ZD (YF h l (.cells ty cs))
        | none => .fail "store"
      else .fail "store"
    | _ => .fail "store"
  | _ => .fail "store"
theorem Z40 {n : Nat} {c : Call} : ZF n g1 g2 E c t h = oSt n (g1 t) (g2 t) h := by
  unfold ZF oSt
  simp only [Zhr,Nat.zero_add,Zm8,Zsi,Zdz]
  cases g1 t <;> try rfl
  rename_i l off
  show Zjj (hget h.mem l) _ _ = _
  simp only
  cases hget h.mem l with
  | none => rfl
  | some o => cases o <;> try rfl
              rename_i ty cs
              show Bool.rec (motive := fun _ => O D) _ _ _ = _
              simp only
              cases Nat.beq (g2 t).cells.length n with
              | false => rfl
              | true => cases Y4 (g2 t).cells with
                | false => rfl
                | true => simp only [Bool.and_self,cond_true]; cases patch cs off (g2 t).cells <;> rfl
theorem Zun {cs xs ys : List D} {off : Nat} (hl : off + xs.length ≤ cs.length) (hy : cs.take off ++ xs ++ cs.drop (off + xs.length) = ys) : patch cs off xs = some ys := by
  have : Nat.ble (off + xs.length) cs.length = true := Zb5 hl
  simp only [patch,this,cond_true,hy]
def Zha (E : Env) (f : IntKind → Int → Int → D) (op : BinOp) (ty : TypeId) (ox oy : Operand) (x y : D) (h : H) : O D :=
  match x with
  | .int k a => match y with
    | .int k' b => bif kEq k k' then .ok (f k a b) h else Zbl (Zcq E op ty ox oy (.int k a) (.int k' b)) h "bin"
    | y => Zbl (Zcq E op ty ox oy (.int k a) y) h "bin"
  | x => Zbl (Zcq E op ty ox oy x y) h "bin"
theorem Z3m {f : IntKind → Int → Int → D} {op : BinOp} {ty : TypeId} {ox oy : Operand} {c : Call} : Za f op ty ox oy g1 g2 E c t h = Zha E f op ty ox oy (g1 t) (g2 t) h := by
  unfold Za Zha
  generalize g1 t = x
  generalize g2 t = y
  cases x <;> try rfl
  · cases y <;> try rfl
    rename_i k a k' b
    show Bool.rec (motive := fun _ => O D) _ _ (kEq k k') = bif kEq k k' then _ else _
    cases kEq k k' <;> rfl
  · cases y <;> try rfl
    exact Zyq ..
theorem Zym {d : D} {c : Call} {a : AAct} : Yy (.d d) E c a h = Zhp d h := by rw [Zn5]; rfl
theorem Zyl {d : D} {c : Call} {a : AAct} : Z4 (.d d) E c a h = Z36 d h := by rw [Ze8]; rfl
theorem Z3j {n : Nat} {d : D} {c : Call} {a : AAct} : Zt n (.d d) E c a h = oFa n d h := by rw [Zsd]; rfl
theorem Zyo {n : Nat} {d : D} {c : Call} {a : AAct} : Xe n (.d d) E c a h = Z0s n d h := by rw [Zoa]; rfl
theorem Zyn {n : Nat} {d e : D} {c : Call} {a : AAct} : ZZ n (.d d) (.d e) E c a h = Zci n d e h := by rw [Zn6]; rfl
theorem Zui {n : Nat} {d e : D} {c : Call} {a : AAct} : Zd3 n (.d d) none (some (.d e)) E c a h = Z0q n d e h := by rw [Zlc]; rfl
theorem XX {f : IntKind → Int → Int → D} {op : BinOp} {ty : TypeId} {ox oy : Operand} {kk : IntKind} {a b : Int} : Zha E f op ty ox oy (.int kk a) (.int kk b) h = .ok (f kk a b) h := by
  have : kEq kk kk = true := by cases kk <;> rfl
  simp only [Zha,this,cond_true]
def Zyx (c x y : D) (h : H) : O D :=
  match c with
  | .v (.bool b) => .ok (bif b then x else y) h
  | _ => .fail "pick"
theorem Zzd {c : Call} : Yb g1 g2 g3 E c t h = Zyx (g1 t) (g2 t) (g3 t) h := by
  unfold Yb
  cases g1 t <;> try rfl
  rename_i v
  cases v <;> try rfl
  rename_i b
  cases b <;> rfl
theorem V0 {b : Bool} {x y : D} : Zyx (.v (.bool b)) x y h = .ok (bif b then x else y) h := rfl
def Zw4 (o : Option (List D)) (h : H) : O D :=
  match o with
  | some cs => .ok (.agg cs) h
  | none => .fail "build"
theorem Y0 {cs : List D} : Zw4 (some cs) h = .ok (.agg cs) h := rfl
def Zoo (o : Option (List D)) (e : TypeId) (len : Nat) (h : H) : O D :=
  match o with
  | some cs => .ok (.sl h.next len cs) (Vr h (.tip len e))
  | none => .fail "buildSl"
theorem ZH {cs : List D} {e : TypeId} {len : Nat} : Zoo (some cs) e len h = .ok (.sl h.next len cs) (Vr h (.tip len e)) := rfl
theorem X2 {cells : List D} : WI t cells [] = some cells := rfl
def oFill (o : Option (List D)) (t : Tr D) (r : List (Nat × Nat × (Tr D → D))) : Option (List D) :=
  match o with
  | some cells => WI t cells r
  | none => none
theorem Ys {cells : List D} {r : List (Nat × Nat × (Tr D → D))} : oFill (some cells) t r = WI t cells r := rfl
def Z39 (z x k : D) (h : H) : O D := Ze9 0 z (.d x) (.d k) true E Zu (act .nil) h
def oFind (o : Option (Option D)) (z : D) (h : H) : O D :=
  match o with
  | some (some d) => .ok (.tup [d,.v (.bool true)]) h
  | some none => .ok (.tup [z,.v (.bool false)]) h
  | none => .fail "lookup: key"
theorem Yq {d z : D} : oFind (some (some d)) z h = .ok (.tup [d,.v (.bool true)]) h := rfl
theorem Yr {z : D} : oFind (some none) z h = .ok (.tup [z,.v (.bool false)]) h := rfl
def Z37 (m k x : D) (h : H) : O D := Zgf 0 (.d m) (.d k) (.d x) E Zu (act .nil) h
def oMk (e : TypeId) (size bytes : Nat) (z : List D) (l c : D) (h : H) : O D := Zje e size bytes z (.d l) (.d c) E Zu (act .nil) h
theorem Zke {e : TypeId} {size bytes n : Nat} {z : List D} (h1 : n ≤ 140737488355328) (h2 : n * bytes ≤ 140737488355328) : oMk (E := E) e size bytes z (.int .i64 (.ofNat n)) (.int .i64 (.ofNat n)) h = .ok (.row h.next 0 n n) (Vr h (.cells e (repeatL z n))) := by
  have e1 : Nat.ble n 140737488355328 = true := Zb5 h1
  have e2 : Nat.ble (n * bytes) 140737488355328 = true := Zb5 h2
  simp only [oMk,Zld,Za3,AAct.eval,e1,e2,Bool.and_self,cond_true,Nat.beq_refl,Zbe]
def Zjk (e : TypeId) (size bytes : Nat) (s x : D) (h : H) : O D := Vb h e size bytes s x
theorem Zyp {e : TypeId} {size bytes : Nat} {x y : D} {c : Call} {a : AAct} : Zbo e size bytes (.d x) (.d y) E c a h = Zjk e size bytes x y h := by rw [Zod]; rfl
theorem Zhq {e : TypeId} {size bytes id m : Nat} {ys : List D} (hm : 0 < m) (ho : Y4 ys = true) (hl : ys.length = m * size) (hz : 0 < size) (h1 : m * bytes ≤ 140737488355328) (h2 : m ≤ 140737488355328) :
    Zjk e size bytes (.v (.slice none 0 0)) (.sl id m ys) h = .ok (.sl h.next m ys) (Vr h (.tip m e)) := by
  have e0 : Nat.beq m 0 = false := by rw [Xi]; exact decide_eq_false (by omega)
  have e1 : Nat.beq size 0 = false := by rw [Xi]; exact decide_eq_false (by omega)
  have e2 : Nat.ble (m * bytes) 140737488355328 = true := Zb5 h1
  have e3 : Nat.ble m 140737488355328 = true := Zb5 h2
  simp only [Zjk,Vb,Zz,hl,Nat.beq_refl,cond_true,e0,cond_false,ho,e1,Bool.not_false,Bool.and_self,e2,e3,Zbe]
theorem Zm9 {e : TypeId} {size bytes id k n m : Nat} {cs ys : List D} (ht : hget h.mem k = some (.tip n e)) (hm : 0 < m) (ho : Y4 ys = true) (hl : ys.length = m * size) (hc : cs.length = n * size) (hz : 0 < size)
    (h1 : (n + m) * bytes ≤ 140737488355328) (h2 : n + m ≤ 140737488355328) :
    Zjk e size bytes (.sl k n cs) (.sl id m ys) h = .ok (.sl k (n + m) (cs ++ ys)) (YF h k (.tip (n + m) e)) := by
  have e0 : Nat.beq m 0 = false := by rw [Xi]; exact decide_eq_false (by omega)
  have e1 : Nat.beq size 0 = false := by rw [Xi]; exact decide_eq_false (by omega)
  have e2 : Nat.ble ((n + m) * bytes) 140737488355328 = true := Zb5 h1
  have e3 : Nat.ble (n + m) 140737488355328 = true := Zb5 h2
  rw [ZO] at ht
  simp only [Zjk,Vb,Zz,hl,Nat.beq_refl,cond_true,e0,cond_false,ho,e1,Bool.not_false,Bool.and_self,e2,e3,ht,hc,UN]
theorem XR {d : D} {w : String} : Zbl (some d) h w = .ok d h := rfl
theorem Va {m n : Nat} : Nat.ble m n = decide (m ≤ n) := by rw [Bool.eq_iff_iff]; simp only [Nat.ble_eq,decide_eq_true_eq]
theorem XD {w : Bool} : wanted ZD w = false := rfl
theorem Ztm {b w : Bool} : wanted (.v (.bool b)) w = bif b then w else !w := by cases b <;> cases w <;> rfl
theorem V9 : Zky [] t = [] := rfl
theorem Wa {gs : List (Tr D → D)} : Zky (g :: gs) t = g t :: Zky gs t := rfl
theorem X3 {j : Nat} {ss : List (D → Tr D → Tr D)} : Zef j ss [] t = t := by cases ss <;> rfl
theorem Yv {j : Nat} {s : D → Tr D → Tr D} {ss : List (D → Tr D → Tr D)} {x : D} {xs : List D} : Zef j (s :: ss) (x :: xs) t = Zef (j + 1) ss xs (s x t) := rfl
theorem X9 {kk : IntKind} {n : Int} : (D.int kk n).cells = [.int kk n] := rfl
theorem X4 {l : List Nat} : (D.str l).cells = [.str l] := rfl
theorem Xa {cs : List D} : (D.agg cs).cells = cs := rfl
theorem Wd {id n : Nat} {cs : List D} : (D.sl id n cs).cells = [.sl id n cs] := rfl
theorem X5 {a b c d : Nat} : (D.row a b c d).cells = [.row a b c d] := rfl
theorem X8 {l : Nat} : (D.map l).cells = [.map l] := rfl
theorem X6 {l o : Nat} : (D.ptr l o).cells = [.ptr l o] := rfl
theorem Yw {b : Bool} : (D.v (.bool b)).cells = [.v (.bool b)] := rfl
theorem X7 : (D.v (.slice none 0 0)).cells = [.v (.slice none 0 0)] := rfl
theorem WX : Y4 [] = true := rfl
theorem XP {d : D} {r : List D} : Y4 (d :: r) = (d.one && Y4 r) := rfl
theorem WZ {kk : IntKind} {n : Int} : (D.int kk n).one = true := rfl
theorem WU {l : List Nat} : (D.str l).one = true := rfl
theorem Uz {id n : Nat} {cs : List D} : (D.sl id n cs).one = true := rfl
theorem WV {a b c d : Nat} : (D.row a b c d).one = true := rfl
theorem WY {l : Nat} : (D.map l).one = true := rfl
theorem WW {l o : Nat} : (D.ptr l o).one = true := rfl
theorem XQ {b : Bool} : (D.v (.bool b)).one = true := rfl
theorem XO : (D.v (.slice none 0 0)).one = true := rfl
def oOne (o : Option (List D)) (h : H) : O D :=
  match o with
  | some cs => .ok (.agg cs) h
  | none => .fail "results"
theorem YW {cs : List D} : oOne (some cs) h = .ok (.agg cs) h := rfl
theorem Wc {n s : Nat} {c : CC} : UP ⟨[.cN n s],c⟩ (act t) h = oOne (Z3 h (Gt n t) s) h := by
  simp only [Zdw,Zbj,Xl,Gt,geq]
  cases Z3 h ((act t).eval (.t n)) s <;> rfl
def oTwo (o : Option (List D)) (d : D) (h : H) : O D :=
  match o with
  | some cs => .ok (.tup [.agg cs,d]) h
  | none => .fail "results"
theorem YV {cs : List D} {d : D} : oTwo (some cs) d h = .ok (.tup [.agg cs,d]) h := rfl
theorem Wb {n s m : Nat} {c : CC} : UP ⟨[.cN n s,.t m],c⟩ (act t) h = oTwo (Z3 h (Gt n t) s) (Gt m t) h := by
  simp only [Zdw,Zbj,Xl,Gt,geq]
  cases Z3 h ((act t).eval (.t n)) s <;> rfl
theorem Zf8 {m : Nat} (hm : m ≤ 9223372036854775807) : Zeq .i64 (.ofNat m) = .ofNat m := by
  have : Nat.ble m (Zxi .i64) = true := Zb5 hm
  simp only [Zeq,this,cond_true]
theorem iAdd_n {m n : Nat} : iAdd (.ofNat m) (.ofNat n) = .ofNat (m + n) := rfl
theorem Zbp {m n : Nat} : iEq (.ofNat m) (.ofNat n) = Nat.beq m n := rfl
theorem Zdj {m n : Nat} : iLt (.ofNat m) (.ofNat n) = Nat.blt m n := rfl
theorem YH {m n : Nat} (hm : m + n ≤ 9223372036854775807) : YS .i64 (.ofNat m) (.ofNat n) = .int .i64 (.ofNat (m + n)) := by
  simp only [YS,iAdd_n,Zf8 hm]
theorem WB {j : Nat} : Ya j [] = false := rfl
theorem Yo {x : D} {cs : List D} : XA inc x cs [] = true := rfl
theorem YU {x y : D} {cs ds : List D} {j : Nat} : XA inc x cs (.rd j y ds :: recs) = XA inc x cs recs := rfl
theorem Yu : YJ inc h [] = true := rfl
theorem Y1 {j : Nat} {h0 : H} : YJ inc h (.loud j h0 :: recs) = YJ inc h recs := rfl
theorem ZU : YJ [] h recs = true := by
  induction recs with
  | nil => rfl
  | cons r l ih => cases r <;> simp only [YJ,WB,Bool.not_false,Bool.true_or,Bool.true_and,ih]
end
end
end Go.Abs
namespace Go.Abs
noncomputable section
theorem WP.mono {E : Env} {T : Nat → ZV} {c : FC} {t : Tr D} {h : H} {M Q : UU} (hc : WP E T c t h M) (hq : ∀ e t' h',M e t' h' → Q e t' h') : WP E T c t h Q := by
  obtain ⟨e,t1,h1,hr,hm⟩ := hc
  exact ⟨e,t1,h1,hr,hq _ _ _ hm⟩
def Gr (h h' : H) : Prop := h.next ≤ h'.next ∧ ∀ l,l < h.next → hget h'.mem l = hget h.mem l
theorem Gr.refl (h : H) : Gr h h := ⟨Nat.le_refl _,fun _ _ => rfl⟩
theorem Gr.trans {a b c : H} (h : Gr a b) (k : Gr b c) : Gr a c := ⟨Nat.le_trans h.1 k.1,fun l hl => (k.2 l (Nat.lt_of_lt_of_le hl h.1)).trans (h.2 l hl)⟩
theorem Gr.new {a b : H} (h : Gr a b) (o : AObj) : Gr a (Vr b o) := ⟨Nat.le_succ_of_le h.1,fun l hl => (Zi (Nat.ne_of_lt (Nat.lt_of_lt_of_le hl h.1))).trans (h.2 l hl)⟩
theorem Gr.put {a b : H} (h : Gr a b) {k : Nat} (hk : a.next ≤ k) (o : AObj) : Gr a (YF b k o) := ⟨h.1,fun l hl => (Z9 (Nat.ne_of_lt (Nat.lt_of_lt_of_le hl hk))).trans (h.2 l hl)⟩
theorem Z79 {size m i : Nat} {cs xs rest : List D} (hx : cs.drop (i * size) = xs ++ rest) (hl : xs.length = size) (hi : i < m) : ∃ rest',(cs.take (m * size)).drop (i * size) = xs ++ rest' := by
  have e : m * size - i * size = size + (m - i - 1) * size := by
    obtain ⟨j,rfl⟩ : ∃ j,m = i + 1 + j := ⟨m - i - 1,by omega⟩
    have : i + 1 + j - i - 1 = j := by omega
    rw [this,Nat.add_mul,Nat.add_mul,Nat.one_mul]
    omega
  refine ⟨rest.take ((m - i - 1) * size), ?_⟩
  rw [List.drop_take,hx,e,List.take_append,hl,List.take_of_length_le (by omega),Nat.add_sub_cancel_left]
theorem Z08 {size id n m : Nat} {cs : List D} (hm : m ≤ n) : ∃ id' cs',Zjr size id n cs m = .sl id' m cs' ∧ ∀ i xs rest,cs.drop (i * size) = xs ++ rest → xs.length = size → i < m → ∃ rest',cs'.drop (i * size) = xs ++ rest' := by
  unfold Zjr
  cases hb : Nat.beq m n with
  | true => exact ⟨id,cs,by rw [Nat.eq_of_beq_eq_true hb]; rfl,fun i xs rest hx _ _ => ⟨rest,hx⟩⟩
  | false => exact ⟨0,cs.take (m * size),rfl,fun i xs rest hx hl hi => Z79 hx hl hi⟩
theorem Z20 {gs : List D} {i : Nat} {d : D} (hi : i < gs.length) : gs.take i ++ [d] ++ gs.drop (i + 1) = gs.set i d := by
  rw [List.set_eq_take_append_cons_drop,if_pos hi,List.append_assoc]; rfl
def Z34 (o : Option (List D)) (cs : List D) : Bool :=
  match o with
  | some ds => ZR cs ds
  | none => false
theorem Yp {cs ds : List D} : Z34 (some ds) cs = ZR cs ds := rfl
theorem ZN {inc : List Nat} {x : D} {cs : List D} {j : Nat} {h0 : H} {recs : List Rec} : XA inc x cs (.loud j h0 :: recs) = ((!Ya j inc || Z34 (Z3 h0 x cs.length) cs) && XA inc x cs recs) := rfl
theorem Yt {inc : List Nat} {h : H} {x : D} {cs : List D} {j : Nat} {recs : List Rec} : YJ inc h (.rd j x cs :: recs) = ((!Ya j inc || Z34 (Z3 h x cs.length) cs) && YJ inc h recs) := rfl
def Z0n (o : Option AObj) (e size bytes k n m : Nat) (cs ys : List D) (h : H) : O D :=
  match o with
  | some (.tip k' u) => bif Nat.beq k' n && Nat.beq u e && Nat.beq cs.length (n * size) && Nat.ble ((n + m) * bytes) 140737488355328 && Nat.ble (n + m) 140737488355328 then .ok (.sl k (n + m) (cs ++ ys)) (YF h k (.tip (n + m) e)) else .fail "append: not the tip"
  | _ => .fail "append: no tip"
theorem Xt {e size bytes k n id m : Nat} {cs ys : List D} {h : H} : Zjk e size bytes (.sl k n cs) (.sl id m ys) h = bif Nat.beq ys.length (m * size) then (bif Nat.beq m 0 then .ok (.sl k n cs) h else bif Y4 ys && Nat.beq ys.length (m * size) && !Nat.beq size 0 then Z0n (hget h.mem k) e size bytes k n m cs ys h else .fail "append: cells") else .fail "append: what?" := by
  cases hb : Nat.beq ys.length (m * size)
  · simp only [Zjk,Vb,Zz,hb,cond_false]
  · simp only [Zjk,Vb,Zz,Z0n,ZO,UN,hb,cond_true]
    rfl
theorem X1 {e size bytes id m : Nat} {ys : List D} {h : H} : Zjk e size bytes (.v (.slice none 0 0)) (.sl id m ys) h = bif Nat.beq ys.length (m * size) then (bif Nat.beq m 0 then .ok (.v (.slice none 0 0)) h else bif Y4 ys && Nat.beq ys.length (m * size) && !Nat.beq size 0 then (bif Nat.ble (m * bytes) 140737488355328 && Nat.ble m 140737488355328 then .ok (.sl h.next m ys) (Vr h (.tip m e)) else .fail "append: size") else .fail "append: cells") else .fail "append: what?" := by
  cases hb : Nat.beq ys.length (m * size)
  · simp only [Zjk,Vb,Zz,hb,cond_false]
  · simp only [Zjk,Vb,Zz,Zbe,hb,cond_true]
theorem Zif {e size bytes k n m : Nat} {cs ys : List D} {h : H} (hc : cs.length = n * size) (h1 : (n + m) * bytes ≤ 140737488355328) (h2 : n + m ≤ 140737488355328) : Z0n (some (.tip n e)) e size bytes k n m cs ys h = .ok (.sl k (n + m) (cs ++ ys)) (YF h k (.tip (n + m) e)) := by
  simp only [Z0n,Nat.beq_refl,hc,Zb5 h1,Zb5 h2,Bool.and_self,cond_true]
theorem mem_cons {i j : Nat} {r : List Nat} : Ya i (j :: r) = (Nat.beq i j || Ya i r) := rfl
theorem YT (c : Int) : ZR [.int .i64 c] [.int .i64 c] = true := by simp only [ZR,D.same,decide_true,Bool.and_self]
theorem Zdf {h : H} {recs : List Rec} : (YJ [] h recs = true) ↔ True := by rw [ZU]; exact ⟨fun _ => trivial,fun _ => rfl⟩
theorem Zdc {inc : List Nat} {x : D} {cs : List D} : (XA inc x cs [] = true) ↔ True := ⟨fun _ => trivial,fun _ => rfl⟩
section
variable {E : Env} {T : Nat → ZV}
variable {t : Tr D} {h : H} {Q : UU} {p : D → Tr D → Tr D} {k : FR} {g g1 g2 : Tr D → D} {kd : FD} {recs : List Rec}
def Zuw (d : D) (h : H) : O D := Zj8 (.d d) ⟨default,fun _ => none,fun _ => none,fun _ => none⟩ Zu (act .nil) h
def Z7x (d : D) (h : H) : O D :=
  match d with
  | .str l => .ok (.sl 0 l.length (Yz l)) h
  | _ => .fail "s2b"
theorem Z71 {id n : Nat} {cs : List D} {l : List Nat} (hn : cs.length = n) (hl : Wl cs = some l) : Zuw (.sl id n cs) h = .ok (.str l) h := by
  subst hn
  simp only [Zuw,Zj7,Zbw,AAct.eval,Zz,Nat.mul_one,Nat.beq_refl,cond_true,hl]
theorem XY : Zuw (.v (.slice none 0 0)) h = .ok (.str []) h := rfl
theorem Zkf {l n c : Nat} {ty : TypeId} {cs : List D} {bs : List Nat} (hm : hget h.mem l = some (.cells ty cs)) (hn : cs.length = n) (hl : Wl cs = some bs) : Zuw (.row l 0 n c) h = .ok (.str bs) h := by
  subst hn
  rw [ZO] at hm
  simp only [Zuw,Zj7,Zbw,AAct.eval,Zz,Z3,hm,List.drop_zero,Nat.mul_one,List.take_length,Nat.beq_refl,cond_true,hl]
def Zyy (d : D) (h : H) : O D :=
  match d with
  | .str l => .ok (.int .i64 (.ofNat l.length)) h
  | _ => .fail "len"
theorem Zuk {E : Env} {d : D} {c : Call} {a : AAct} {h : H} : Vm (.d d) E c a h = Zyy d h := by rw [Zle]; rfl
theorem YY {l : List Nat} : Zyy (.str l) h = .ok (.int .i64 (.ofNat l.length)) h := rfl
def Zho (lo hi : Option D) (x : D) (h : H) : O D :=
  match x with
  | .str s => match Wh s.length s.length lo hi with
    | some (l,k) => .ok (.str ((s.drop l).take (k - l))) h
    | none => .fail "slice: string"
  | _ => .fail "slice: string"
theorem Zft (c : Call) (lo hi : Option (Tr D → D)) : Zcv g lo hi E c t h = Zho (lo.map (· t)) (hi.map (· t)) (g t) h := by
  have e := Zrb (.d (g t)) (lo.map fun f => .d (f t)) (hi.map fun f => .d (f t)) E c t h
  have e1 : Zcv (fe (.d (g t))) (Zwe (lo.map fun f => .d (f t))) (Zwe (hi.map fun f => .d (f t))) E c t h = Zcv g lo hi E c t h := by
    cases lo <;> cases hi <;> rfl
  rw [← e1,e]
  cases lo <;> cases hi <;> rfl
theorem Z0p {s : List Nat} {n : Nat} {kk : IntKind} (hn : n ≤ s.length) : Zho none (some (.int kk (.ofNat n))) (.str s) h = .ok (.str (s.take n)) h := by
  simp only [Zho,Wh,Z06,Z6e,Zb5 hn,cond_true,List.drop_zero,Nat.sub_zero]
theorem Z9a {op : TypeId} {ox oy : Operand} {a b : List Nat} (hl : a.length + b.length ≤ 140737488355328) : Zcq E .add op ox oy (.str a) (.str b) = some (.str (a ++ b)) := by
  simp only [Zcq,Za6,Zb5 hl,cond_true]
end
end
end Go.Abs
