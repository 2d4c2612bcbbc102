/- The quick code, run by rules: for what is not closed. -/
import Derived.Test.YtlkjicigmhhjbaaGreatDoorNdFast
set_option linter.unusedVariables false
set_option linter.unusedSimpArgs false
namespace Go.Abs
noncomputable section
section
variable {E : Env} {T : Nat → ZE}
def Ev (E : Env) (T : Nat → ZE) (f : Nat) (args : List D) (h : H) (o : O D) : Prop := ∃ N, ∀ n, N ≤ n → Xr E T n f args h = o
def Ub (E : Env) (T : Nat → ZE) (c : FC) (t : Tr D) (h : H) (x : XT) : Prop := ∃ N, ∀ n m, N ≤ n → N ≤ m → c E (Xr E T n) m t h = x
def Zxa (E : Env) (T : Nat → ZE) (r : FR) (t : Tr D) (h : H) (x : XT) : Prop := ∃ N, ∀ n, N ≤ n → r E (Xr E T n) t h = x
def Zma (E : Env) (T : Nat → ZE) (r : FD) (recs : List Rec) (t : Tr D) (h : H) (x : XT) : Prop := ∃ N, ∀ n, N ≤ n → r E (Xr E T n) recs t h = x
theorem Zrr {t : Tr D} {h : H} : Ub E T Z8 t h (.out .normal t h) := ⟨1, fun n m hn hm => by cases m with
  | zero => omega
  | succ m => rfl⟩
theorem Zrt {id : Nat} {t : Tr D} {h : H} : Ub E T (ZL id) t h (.out (.exit id) t h) := ⟨1, fun n m hn hm => by cases m with
  | zero => omega
  | succ m => rfl⟩
theorem Zvc {t : Tr D} {h : H} : Ub E T Zb t h (.out .ret t h) := ⟨1, fun n m hn hm => by cases m with
  | zero => omega
  | succ m => rfl⟩
theorem Z4o {r : FR} {t : Tr D} {h : H} {x : XT} (hr : Zxa E T r t h x) : Ub E T (Z1 r) t h x := by
  obtain ⟨N, hN⟩ := hr
  refine ⟨N + 1, fun n m hn hm => ?_⟩
  cases m with
  | zero => omega
  | succ m => exact hN n (by omega)
theorem Z10 {r : FD} {t : Tr D} {h : H} {x : XT} (hr : Zma E T r [] t h x) : Ub E T (Zv r) t h x := by
  obtain ⟨N, hN⟩ := hr
  refine ⟨N + 1, fun n m hn hm => ?_⟩
  cases m with
  | zero => omega
  | succ m => exact hN n (by omega)
theorem Zvb {a b : FC} {t t1 : Tr D} {h h1 : H} {x : XT} (ha : Ub E T a t h (.out .normal t1 h1)) (hb : Ub E T b t1 h1 x) : Ub E T (Z0 a b) t h x := by
  obtain ⟨N, hN⟩ := ha
  obtain ⟨M, hM⟩ := hb
  refine ⟨N + M + 1, fun n m hn hm => ?_⟩
  cases m with
  | zero => omega
  | succ m =>
    show XT.casesOn (motive := fun _ => XT) (a E (Xr E T n) m t h) _ _ _ = x
    rw [hN n m (by omega) (by omega)]
    exact hM n m (by omega) (by omega)
def Z5t : AExit → Prop
  | .normal => False
  | _ => True
theorem Za4 {a b : FC} {t t1 : Tr D} {h h1 : H} {e : AExit} (ha : Ub E T a t h (.out e t1 h1)) (he : Z5t e) : Ub E T (Z0 a b) t h (.out e t1 h1) := by
  obtain ⟨N, hN⟩ := ha
  refine ⟨N + 1, fun n m hn hm => ?_⟩
  cases m with
  | zero => omega
  | succ m =>
    show XT.casesOn (motive := fun _ => XT) (a E (Xr E T n) m t h) _ _ _ = _
    rw [hN n m (by omega) (by omega)]
    cases e with
    | normal => exact he.elim
    | exit id => rfl
    | ret => rfl
theorem Zg9 {g : Tr D → D} {a b : FC} {t : Tr D} {h : H} {x : XT} (v : Bool) (hg : g t = .v (.bool v)) (hx : Ub E T (bif v then a else b) t h x) : Ub E T (Z7 g a b) t h x := by
  obtain ⟨N, hN⟩ := hx
  refine ⟨N + 1, fun n m hn hm => ?_⟩
  cases m with
  | zero => omega
  | succ m =>
    have := hN n m (by omega) (by omega)
    simp only [Z7, hg]
    cases v <;> exact this
def Zqd (id : Nat) : AExit → AExit
  | .exit k => bif Nat.beq k id then .normal else .exit k
  | e => e
theorem Zoz {a : FC} {id : Nat} {t t1 : Tr D} {h h1 : H} {e : AExit} (ha : Ub E T a t h (.out e t1 h1)) : Ub E T (Zc id a) t h (.out (Zqd id e) t1 h1) := by
  obtain ⟨N, hN⟩ := ha
  refine ⟨N + 1, fun n m hn hm => ?_⟩
  cases m with
  | zero => omega
  | succ m =>
    show XT.casesOn (motive := fun _ => XT) (a E (Xr E T n) m t h) _ _ _ = _
    rw [hN n m (by omega) (by omega)]
    cases e with
    | normal => rfl
    | exit k => simp only [Zqd]; cases Nat.beq k id <;> rfl
    | ret => rfl
theorem Zrs {a : FC} {t t1 : Tr D} {h h1 : H} {x : XT} (ha : Ub E T a t h (.out .normal t1 h1)) (hx : Ub E T (ZI a) t1 h1 x) : Ub E T (ZI a) t h x := by
  obtain ⟨N, hN⟩ := ha
  obtain ⟨M, hM⟩ := hx
  refine ⟨N + M + 1, fun n m hn hm => ?_⟩
  cases m with
  | zero => omega
  | succ m =>
    simp only [Zfi]
    rw [hN n m (by omega) (by omega)]
    exact hM n m (by omega) (by omega)
theorem UR {a : FC} {t t1 : Tr D} {h h1 : H} {e : AExit} (ha : Ub E T a t h (.out e t1 h1)) (he : Z5t e) : Ub E T (ZI a) t h (.out e t1 h1) := by
  obtain ⟨N, hN⟩ := ha
  refine ⟨N + 1, fun n m hn hm => ?_⟩
  cases m with
  | zero => omega
  | succ m =>
    simp only [Zfi]
    rw [hN n m (by omega) (by omega)]
    cases e with
    | normal => exact he.elim
    | exit id => rfl
    | ret => rfl
theorem Z4p {t : Tr D} {h : H} : Zxa E T Z2 t h (.out .normal t h) := ⟨0, fun n _ => rfl⟩
theorem Z4q {recs : List Rec} {t : Tr D} {h : H} : Zma E T Zw recs t h (.out .normal t h) := ⟨0, fun n _ => rfl⟩
theorem Z8l {f : VH} {p : D → Tr D → Tr D} {k : FR} {t : Tr D} {h h1 : H} {d : D} {x : XT} (hf : ∀ call, f E call t h = .ok d h1) (hk : Zxa E T k (p d t) h1 x) : Zxa E T (fo f p k) t h x := by
  obtain ⟨N, hN⟩ := hk
  refine ⟨N, fun n hn => ?_⟩
  show O.casesOn (motive := fun _ => XT) (f E (Xr E T n) t h) _ _ _ = x
  rw [hf]
  exact hN n hn
theorem Z11 {f : Nat} {gs : List (Tr D → D)} {p : D → Tr D → Tr D} {k : FR} {t : Tr D} {h h1 : H} {d : D} {x : XT} (hf : Ev E T f (Zkv gs t) h (.ok d h1)) (hk : Zxa E T k (p d t) h1 x) : Zxa E T (fo (Z9 f gs) p k) t h x := by
  obtain ⟨N, hN⟩ := hk
  obtain ⟨M, hM⟩ := hf
  refine ⟨N + M, fun n hn => ?_⟩
  show O.casesOn (motive := fun _ => XT) (Xr E T n f (Zkv gs t) h) _ _ _ = x
  rw [hM n (by omega)]
  exact hN n (by omega)
theorem Z8m {f : VH} {p : D → Tr D → Tr D} {k : FD} {recs : List Rec} {t : Tr D} {h h1 : H} {d : D} {x : XT} (hf : ∀ call, f E call t h = .ok d h1) (hk : Zma E T k recs (p d t) h1 x) : Zma E T (Zf f p k) recs t h x := by
  obtain ⟨N, hN⟩ := hk
  refine ⟨N, fun n hn => ?_⟩
  show O.casesOn (motive := fun _ => XT) (f E (Xr E T n) t h) _ _ _ = x
  rw [hf]
  exact hN n hn
theorem Z12 {i n : Nat} {inc : List Nat} {g : Tr D → D} {f : VH} {p : D → Tr D → Tr D} {k : FD} {recs : List Rec} {t : Tr D} {h h1 : H} {d : D} {cs : List D} {x : XT} (hf : ∀ call, f E call t h = .ok d h1) (hc : Zk h (g t) n = some cs) (ho : XP inc (g t) cs recs = true)
    (hk : Zma E T k (.rd i (g t) cs :: recs) (p d t) h1 x) : Zma E T (Xv i inc n g f p k) recs t h x := by
  obtain ⟨N, hN⟩ := hk
  refine ⟨N, fun m hm => ?_⟩
  show O.casesOn (motive := fun _ => XT) (f E (Xr E T m) t h) _ _ _ = x
  rw [hf]
  simp only [Zau, Zeq, Z6u, hc, ho, cond_true]
  exact hN m hm
theorem Z13 {i : Nat} {inc : List Nat} {f : VH} {p : D → Tr D → Tr D} {k : FD} {recs : List Rec} {t : Tr D} {h h1 : H} {d : D} {x : XT} (hf : ∀ call, f E call t h = .ok d h1) (ho : Xm inc h1 recs = true)
    (hk : Zma E T k (.loud i h :: recs) (p d t) h1 x) : Zma E T (Yu i inc f p k) recs t h x := by
  obtain ⟨N, hN⟩ := hk
  refine ⟨N, fun m hm => ?_⟩
  show O.casesOn (motive := fun _ => XT) (f E (Xr E T m) t h) _ _ _ = x
  rw [hf]
  simp only [Zdh, ho, cond_true]
  exact hN m hm
theorem Z14 {i : Nat} {inc : List Nat} {f : Nat} {gs : List (Tr D → D)} {p : D → Tr D → Tr D} {k : FD} {recs : List Rec} {t : Tr D} {h h1 : H} {d : D} {x : XT} (hf : Ev E T f (Zkv gs t) h (.ok d h1)) (ho : Xm inc h1 recs = true)
    (hk : Zma E T k (.loud i h :: recs) (p d t) h1 x) : Zma E T (Yu i inc (Z9 f gs) p k) recs t h x := by
  obtain ⟨N, hN⟩ := hk
  obtain ⟨M, hM⟩ := hf
  refine ⟨N + M, fun m hm => ?_⟩
  show O.casesOn (motive := fun _ => XT) (Xr E T m f (Zkv gs t) h) _ _ _ = x
  rw [hM m (by omega)]
  simp only [Zdh, ho, cond_true]
  exact hN m (by omega)
def ends : AExit → Prop
  | .exit _ => False
  | _ => True
theorem ev_fn {f : Nat} {ss : List (D → Tr D → Tr D)} {res : Tr D → H → O D} {body : FC} {args : List D} {h h1 : H} {t1 : Tr D} {e : AExit} {o : O D} (hT : T f = Y5 ss res body) (hb : Ub E T body (Zc7 0 ss args .nil) h (.out e t1 h1)) (he : ends e) (ho : res t1 h1 = o) : Ev E T f args h o := by
  obtain ⟨N, hN⟩ := hb
  refine ⟨N + 1, fun n hn => ?_⟩
  cases n with
  | zero => omega
  | succ n =>
    show T f E n (Xr E T n) args h = o
    rw [hT]
    show XT.casesOn (motive := fun _ => O D) (body E (Xr E T n) n (Zc7 0 ss args .nil) h) _ _ _ = o
    rw [hN n n (by omega) (by omega)]
    cases e with
    | normal => exact ho
    | exit id => exact he.elim
    | ret => exact ho
theorem ev_lib {f : Nat} {g : List D → H → O D} {args : List D} {h : H} {o : O D} (hT : T f = Wv g) (ho : g args h = o) : Ev E T f args h o :=
  ⟨1, fun n hn => by
    cases n with
    | zero => omega
    | succ n => show T f E n (Xr E T n) args h = o; rw [hT]; exact ho⟩
def Gt (i : Nat) (t : Tr D) : D := gF (i + 1) i t
def St (j : Nat) (v : D) (t : Tr D) : Tr D := pF (j + 1) j v t
theorem Zg4 (i j : Nat) (v : D) (t : Tr D) : Gt i (St j v t) = if i = j then v else Gt i t := by
  simp only [Gt, St, Zsg _ _ _ (Nat.lt_succ_self i), Zr7]
  show Z52 ((t.set j (some v)).get i) = _
  rw [Tr.get_set]
  split <;> rfl
theorem Zpg (v : D) (t : Tr D) : p0 v t = t := rfl
theorem Zpz (d : D) (t : Tr D) : kD d t = d := rfl
theorem VA {h : H} {o : AObj} {l : Nat} (e : l = h.next) : hget (WJ h o).mem l = some o := by
  subst e
  simp only [WJ, Xh, Zhh, Tr.get_set, if_true]
theorem WV {h : H} {o : AObj} {l : Nat} (a : l < h.next + 1) (b : ¬ l < h.next) : hget (WJ h o).mem l = some o := VA (by omega)
theorem YG {h : H} {o : AObj} {l : Nat} (e : l ≠ h.next) : hget (WJ h o).mem l = hget h.mem l := by
  simp only [WJ, Xh, Zhh, Tr.get_set, if_neg e]
theorem WU {h : H} {o : AObj} {l k : Nat} (e : l = k) : hget (Wq h k o).mem l = some o := by
  subst e
  simp only [Wq, Xh, Zhh, Tr.get_set, if_true]
theorem Xu {h : H} {o : AObj} {k : Nat} : hget (Wq h k o).mem k = some o := WU rfl
theorem Yn {h : H} {o : AObj} {l k : Nat} (e : l ≠ k) : hget (Wq h k o).mem l = hget h.mem l := by
  simp only [Wq, Xh, Zhh, Tr.get_set, if_neg e]
theorem Zm (h : H) (o : AObj) : (WJ h o).next = h.next + 1 := rfl
theorem Zl (h : H) (l : Nat) (o : AObj) : (Wq h l o).next = h.next := rfl
end
end
end Go.Abs
namespace Go.Abs
noncomputable section
section
variable {E : Env} {T : Nat → ZE}
abbrev Uc := AExit → Tr D → H → Prop
def WP (E : Env) (T : Nat → ZE) (c : FC) (t : Tr D) (h : H) (Q : Uc) : Prop := ∃ e t' h', Ub E T c t h (.out e t' h') ∧ Q e t' h'
def WD (E : Env) (T : Nat → ZE) (r : FD) (recs : List Rec) (t : Tr D) (h : H) (Q : Uc) : Prop := ∃ e t' h', Zma E T r recs t h (.out e t' h') ∧ Q e t' h'
def WC (E : Env) (T : Nat → ZE) (f : Nat) (args : List D) (h : H) (Q : D → H → Prop) : Prop := ∃ d h', Ev E T f args h (.ok d h') ∧ Q d h'
def Yb : Call := fun _ _ _ => .fail ""
def Kseq (E : Env) (T : Nat → ZE) (b : FC) (Q : Uc) : Uc := fun e t h =>
  match e with
  | .normal => WP E T b t h Q
  | .exit i => Q (.exit i) t h
  | .ret => Q .ret t h
def Z2v (id : Nat) (Q : Uc) : Uc := fun e t h => Q (Zqd id e) t h
def sR (E : Env) (T : Nat → ZE) (o : O D) (c : Option (List D)) (i : Nat) (inc : List Nat) (a : D) (p : D → Tr D → Tr D) (k : FD) (recs : List Rec) (t : Tr D) (Q : Uc) : Prop :=
  match o, c with
  | .ok d h, some cs => XP inc a cs recs = true ∧ WD E T k (.rd i a cs :: recs) (p d t) h Q
  | _, _ => False
def sL (E : Env) (T : Nat → ZE) (o : O D) (i : Nat) (inc : List Nat) (h0 : H) (p : D → Tr D → Tr D) (k : FD) (recs : List Rec) (t : Tr D) (Q : Uc) : Prop :=
  match o with
  | .ok d h => Xm inc h recs = true ∧ WD E T k (.loud i h0 :: recs) (p d t) h Q
  | _ => False
def sB (E : Env) (T : Nat → ZE) (d : D) (a b : FC) (t : Tr D) (h : H) (Q : Uc) : Prop :=
  match d with
  | .v (.bool v) => bif v then WP E T a t h Q else WP E T b t h Q
  | _ => False
def sC (o : O D) (Q : D → H → Prop) : Prop :=
  match o with
  | .ok d h => Q d h
  | _ => False
theorem Zjj {id : Nat} {Q : Uc} {t : Tr D} {h : H} : Z2v id Q .normal t h ↔ Q .normal t h := Iff.rfl
theorem Zji {id : Nat} {Q : Uc} {t : Tr D} {h : H} : Z2v id Q .ret t h ↔ Q .ret t h := Iff.rfl
theorem Zjk {id i : Nat} {Q : Uc} {t : Tr D} {h : H} : Z2v id Q (.exit i) t h ↔ Q (bif Nat.beq i id then .normal else .exit i) t h := Iff.rfl
theorem Zot {d : D} {h : H} {Q : D → H → Prop} : sC (.ok d h) Q ↔ Q d h := Iff.rfl
theorem WC.mono {f : Nat} {args : List D} {h : H} {Q Q' : D → H → Prop} (hc : WC E T f args h Q) (hq : ∀ d h', Q d h' → Q' d h') : WC E T f args h Q' := by
  obtain ⟨d, h1, he, h2⟩ := hc
  exact ⟨d, h1, he, hq _ _ h2⟩
theorem wp_skip {t : Tr D} {h : H} {Q : Uc} (hq : Q .normal t h) : WP E T Z8 t h Q := ⟨_, _, _, Zrr, hq⟩
theorem wp_exit {i : Nat} {t : Tr D} {h : H} {Q : Uc} (hq : Q (.exit i) t h) : WP E T (ZL i) t h Q := ⟨_, _, _, Zrt, hq⟩
theorem wp_ret {t : Tr D} {h : H} {Q : Uc} (hq : Q .ret t h) : WP E T Zb t h Q := ⟨_, _, _, Zvc, hq⟩
theorem wp_seq {a b : FC} {t : Tr D} {h : H} {Q : Uc} (hq : WP E T a t h (Kseq E T b Q)) : WP E T (Z0 a b) t h Q := by
  obtain ⟨e, t1, h1, hr, hq⟩ := hq
  cases e with
  | normal =>
    obtain ⟨e, t', h', hr', hq⟩ := hq
    exact ⟨_, _, _, Zvb hr hr', hq⟩
  | exit i => exact ⟨_, _, _, Za4 hr trivial, hq⟩
  | ret => exact ⟨_, _, _, Za4 hr trivial, hq⟩
theorem wp_block {a : FC} {id : Nat} {t : Tr D} {h : H} {Q : Uc} (hq : WP E T a t h (Z2v id Q)) : WP E T (Zc id a) t h Q := by
  obtain ⟨e, t1, h1, hr, hq⟩ := hq
  exact ⟨_, _, _, Zoz hr, hq⟩
theorem wp_cond {g : Tr D → D} {a b : FC} {t : Tr D} {h : H} {Q : Uc} (hq : sB E T (g t) a b t h Q) : WP E T (Z7 g a b) t h Q := by
  unfold sB at hq
  split at hq
  · rename_i v hv
    cases v with
    | true =>
      obtain ⟨e, t', h', hr, hq⟩ := hq
      exact ⟨_, _, _, Zg9 true hv hr, hq⟩
    | false =>
      obtain ⟨e, t', h', hr, hq⟩ := hq
      exact ⟨_, _, _, Zg9 false hv hr, hq⟩
  · exact hq.elim
end
end
end Go.Abs
namespace Go.Abs
noncomputable section
theorem UM {m n : Nat} (h : m ≤ n) : Nat.ble m n = true := by rw [Nat.ble_eq]; exact h
section
variable {E : Env} {T : Nat → ZE} {p : D → Tr D → Tr D} {k : FR} {kd : FD} {recs : List Rec} {t : Tr D} {h : H} {Q : Uc} {g g1 g2 g3 : Tr D → D} {i : Nat} {inc : List Nat}
def oFa (n : Nat) (d : D) (h : H) : O D :=
  match d with
  | .ptr l o => .ok (.ptr l (o + n)) h
  | .ep cs => .ok (.ep (cs.drop n)) h
  | _ => .fail "fieldAddr"
theorem Ze9 {n l o : Nat} : oFa n (.ptr l o) h = .ok (.ptr l (o + n)) h := rfl
theorem Zi5 {n : Nat} {cs : List D} : oFa n (.ep cs) h = .ok (.ep (cs.drop n)) h := rfl
def Z5i (d : D) (h : H) : O D :=
  match d with
  | .ptr l off => .ok (.ptr l off) h
  | .ep cs => .ok (.ep cs) h
  | .func (.func f) x y => .ok (.func (.func f) x y) h
  | .v (.func (.func f) x y) => .ok (.v (.func (.func f) x y)) h
  | _ => .fail "nil"
theorem Zby {l o : Nat} : Z5i (.ptr l o) h = .ok (.ptr l o) h := rfl
theorem Ze6 {cs : List D} : Z5i (.ep cs) h = .ok (.ep cs) h := rfl
def Zgk (d : D) (h : H) : O D :=
  match d with
  | .sl _ n _ => .ok (.int .i64 (.ofNat n)) h
  | .row _ _ n _ => .ok (.int .i64 (.ofNat n)) h
  | .v (.slice none 0 0) => .ok (.int .i64 (.ofNat 0)) h
  | _ => .fail "len"
theorem Ze7 {id n : Nat} {cs : List D} : Zgk (.sl id n cs) h = .ok (.int .i64 (.ofNat n)) h := rfl
theorem Zbz {l o n c : Nat} : Zgk (.row l o n c) h = .ok (.int .i64 (.ofNat n)) h := rfl
theorem Zb0 : Zgk (.v (.slice none 0 0)) h = .ok (.int .i64 (.ofNat 0)) h := rfl
def Zye (i : Nat) (d : D) (h : H) : O D :=
  match d with
  | .tup ds => Uu (ds[i]?) h "extract"
  | _ => .fail "extract"
theorem Zi8 {a : D} {r : List D} : Zye 0 (.tup (a :: r)) h = .ok a h := rfl
theorem Zi7 {a b : D} {r : List D} : Zye 1 (.tup (a :: b :: r)) h = .ok b h := rfl
theorem Zi6 {a b c : D} {r : List D} : Zye 2 (.tup (a :: b :: c :: r)) h = .ok c h := rfl
def oNot (E : Env) (d : D) (h : H) : O D := Zo9 .not (.d d) E Yb (act .nil) h
theorem Ux {b : Bool} : oNot E (.v (.bool b)) h = .ok (.v (.bool !b)) h := by cases b <;> rfl
def Zgl (size : Nat) (x i : D) (h : H) : O D := Uu (Zb6 size x i) h "index: slice"
theorem Ze8 {size id n i : Nat} {kk : IntKind} {cs : List D} {c : D} {r : List D} (hi : i < n) (hc : cs.drop (i * size) = c :: r) : Zgl size (.sl id n cs) (.int kk (.ofNat i)) h = .ok (.ep (c :: r)) h := by
  have : Nat.blt i n = true := by rw [Zaf]; exact decide_eq_true hi
  simp only [Zgl, Zb6, V3, this, cond_true, hc, Uu]
theorem Zpl {size l o n c i : Nat} {kk : IntKind} (hi : i < n) : Zgl size (.row l o n c) (.int kk (.ofNat i)) h = .ok (.ptr l (o + i * size)) h := by
  have : Nat.blt i n = true := by rw [Zaf]; exact decide_eq_true hi
  simp only [Zgl, Zb6, V3, this, cond_true, Uu]
def oSl (size : Nat) (x : D) (hi : D) (h : H) : O D := Uu (Zlj size x none (some hi)) h "slice"
theorem Zc1 {size : Nat} : oSl size (.v (.slice none 0 0)) (.int .i64 (.ofNat 0)) h = .ok (.v (.slice none 0 0)) h := rfl
def Zyu (size id n : Nat) (cs : List D) (m : Nat) : D := bif Nat.beq m n then .sl id n cs else .sl 0 m (cs.take (m * size))
theorem oSl_sl {size id n m : Nat} {cs : List D} (hm : m ≤ n) : oSl size (.sl id n cs) (.int .i64 (.ofNat m)) h = .ok (Zyu size id n cs m) h := by
  have h1 : Nat.ble m n = true := UM hm
  have h3 : Nat.beq 0 0 = true := rfl
  simp only [oSl, Zlj, XV, Z21, loD, h1, cond_true, Nat.zero_mul, List.drop_zero, Nat.sub_zero, Zyu, h3, Bool.true_and]
  cases Nat.beq m n <;> rfl
def oRd (o : Option AObj) (off n : Nat) : Option (List D) :=
  match o with
  | some (.cells _ cs) => bif Nat.beq ((cs.drop off).take n).length n then some ((cs.drop off).take n) else none
  | _ => none
theorem Zi2 {l off n : Nat} : Zk h (.ptr l off) n = oRd (hget h.mem l) off n := by
  rw [Xh]; rfl
def Z2a (cs : List D) (n : Nat) : Option (List D) := bif Nat.beq (cs.take n).length n then some (cs.take n) else none
theorem Zo8 {cs : List D} {n : Nat} : Zk h (.ep cs) n = Z2a cs n := rfl
theorem oRd_at {ty : TypeId} {cs xs : List D} {off n : Nat} (hx : (cs.drop off).take n = xs) (hn : xs.length = n) : oRd (some (.cells ty cs)) off n = some xs := by
  simp only [oRd, hx, hn, Nat.beq_refl, cond_true]
def Z0d (o : Option (List D)) (h : H) : O D :=
  match o with
  | some [d] => .ok d h
  | _ => .fail "load"
def Z0c (o : Option (List D)) (h : H) : O D :=
  match o with
  | some cs => .ok (.agg cs) h
  | none => .fail "loadN"
theorem UA {d : D} : Z0d (some [d]) h = .ok d h := rfl
theorem Uz {cs : List D} : Z0c (some cs) h = .ok (.agg cs) h := rfl
theorem Z56 : ZJ g E Yb t h = Z0d (Zk h (g t) 1) h := Z0m g E Yb t h (.d (g t)) rfl
theorem Z55 {n : Nat} : Zi n g E Yb t h = Z0c (Zk h (g t) n) h := Z0l n g E Yb t h (.d (g t)) rfl
def oSt (n : Nat) (a x : D) (h : H) : O D :=
  match a with
  | .ptr l off => match hget h.mem l with
    | some (.cells ty cs) =>
      bif Nat.beq x.cells.length n && Xa x.cells then
        match patch cs off x.cells with
        | some cs => .ok Zj (Wq h l (.cells ty cs))
        | none => .fail "store"
      else .fail "store"
    | _ => .fail "store"
  | _ => .fail "store"
theorem Z54 {n : Nat} {c : Call} : Ze n g1 g2 E c t h = oSt n (g1 t) (g2 t) h := by
  unfold Ze oSt
  simp only [Zgp, Nat.zero_add, Znn, Zs9, Zbc]
  cases g1 t <;> try rfl
  rename_i l off
  show Zi9 (hget h.mem l) _ _ = _
  simp only
  cases hget h.mem l with
  | none => rfl
  | some o => cases o <;> try rfl
              rename_i ty cs
              show Bool.rec (motive := fun _ => O D) _ _ _ = _
              simp only
              cases Nat.beq (g2 t).cells.length n with
              | false => rfl
              | true => cases Xa (g2 t).cells with
                | false => rfl
                | true => simp only [Bool.and_self, cond_true]; cases patch cs off (g2 t).cells <;> rfl
theorem Zvy {cs xs ys : List D} {off : Nat} (hl : off + xs.length ≤ cs.length) (hy : cs.take off ++ xs ++ cs.drop (off + xs.length) = ys) : patch cs off xs = some ys := by
  have : Nat.ble (off + xs.length) cs.length = true := UM hl
  simp only [patch, this, cond_true, hy]
def Zng (E : Env) (f : IntKind → Int → Int → D) (op : BinOp) (ty : TypeId) (ox oy : Operand) (x y : D) (h : H) : O D :=
  match x with
  | .int k a => match y with
    | .int k' b => bif kEq k k' then .ok (f k a b) h else Uu (Zcr E op ty ox oy (.int k a) (.int k' b)) h "bin"
    | y => Uu (Zcr E op ty ox oy (.int k a) y) h "bin"
  | x => Uu (Zcr E op ty ox oy x y) h "bin"
theorem Z44 {f : IntKind → Int → Int → D} {op : BinOp} {ty : TypeId} {ox oy : Operand} {c : Call} : Zd f op ty ox oy g1 g2 E c t h = Zng E f op ty ox oy (g1 t) (g2 t) h := by
  unfold Zd Zng
  generalize g1 t = x
  generalize g2 t = y
  cases x <;> try rfl
  · cases y <;> try rfl
    rename_i k a k' b
    show Bool.rec (motive := fun _ => O D) _ _ (kEq k k') = bif kEq k k' then _ else _
    cases kEq k k' <;> rfl
  · cases y <;> try rfl
    exact Zz5 ..
theorem Zzz {d : D} {c : Call} {a : AAct} : V6 (.d d) E c a h = Zgk d h := by rw [Zvn]; rfl
theorem Zzy {d : D} {c : Call} {a : AAct} : Wt (.d d) E c a h = Z5i d h := by rw [Zhs]; rfl
theorem Z40 {n : Nat} {d : D} {c : Call} {a : AAct} : Zcq n (.d d) E c a h = oFa n d h := by rw [Zz2]; rfl
theorem Zz3 {n : Nat} {d : D} {c : Call} {a : AAct} : Zmm n (.d d) E c a h = Zye n d h := by rw [Zvq]; rfl
theorem Zz0 {n : Nat} {d e : D} {c : Call} {a : AAct} : Vw n (.d d) (.d e) E c a h = Zgl n d e h := by rw [Zvo]; rfl
theorem Z4x {n : Nat} {d e : D} {c : Call} {a : AAct} : Zav n (.d d) none (some (.d e)) E c a h = oSl n d e h := by rw [Zr0]; rfl
theorem Zb1 {f : IntKind → Int → Int → D} {op : BinOp} {ty : TypeId} {ox oy : Operand} {kk : IntKind} {a b : Int} : Zng E f op ty ox oy (.int kk a) (.int kk b) h = .ok (f kk a b) h := by
  have : kEq kk kk = true := by cases kk <;> rfl
  simp only [Zng, this, cond_true]
def Z0a (c x y : D) (h : H) : O D :=
  match c with
  | .v (.bool b) => .ok (bif b then x else y) h
  | _ => .fail "pick"
theorem Z0k {c : Call} : Zu g1 g2 g3 E c t h = Z0a (g1 t) (g2 t) (g3 t) h := by
  unfold Zu
  cases g1 t <;> try rfl
  rename_i v
  cases v <;> try rfl
  rename_i b
  cases b <;> rfl
theorem Ze5 {b : Bool} {x y : D} : Z0a (.v (.bool b)) x y h = .ok (bif b then x else y) h := rfl
def Zyf (o : Option (List D)) (h : H) : O D :=
  match o with
  | some cs => .ok (.agg cs) h
  | none => .fail "build"
theorem WS {cs : List D} : Zyf (some cs) h = .ok (.agg cs) h := rfl
def Zpn (o : Option (List D)) (e : TypeId) (len : Nat) (h : H) : O D :=
  match o with
  | some cs => .ok (.sl h.next len cs) (WJ h (.tip len e))
  | none => .fail "buildSl"
theorem We {cs : List D} {e : TypeId} {len : Nat} : Zpn (some cs) e len h = .ok (.sl h.next len cs) (WJ h (.tip len e)) := rfl
theorem UD {cells : List D} : U5 t cells [] = some cells := rfl
def oFill (o : Option (List D)) (t : Tr D) (r : List (Nat × Nat × (Tr D → D))) : Option (List D) :=
  match o with
  | some cells => U5 t cells r
  | none => none
theorem Vp {cells : List D} {r : List (Nat × Nat × (Tr D → D))} : oFill (some cells) t r = U5 t cells r := rfl
def oLook (z x k : D) (h : H) : O D := Zde 0 z (.d x) (.d k) true E Yb (act .nil) h
def oFind (o : Option (Option D)) (z : D) (h : H) : O D :=
  match o with
  | some (some d) => .ok (.tup [d, .v (.bool true)]) h
  | some none => .ok (.tup [z, .v (.bool false)]) h
  | none => .fail "lookup: key"
theorem Vn {d z : D} : oFind (some (some d)) z h = .ok (.tup [d, .v (.bool true)]) h := rfl
theorem Vo {z : D} : oFind (some none) z h = .ok (.tup [z, .v (.bool false)]) h := rfl
def oMset (m k x : D) (h : H) : O D := Zbp 0 (.d m) (.d k) (.d x) E Yb (act .nil) h
def oMk (e : TypeId) (size bytes : Nat) (z : List D) (l c : D) (h : H) : O D := Zbq e size bytes z (.d l) (.d c) E Yb (act .nil) h
theorem oMk_row {e : TypeId} {size bytes n : Nat} {z : List D} (h1 : n ≤ 140737488355328) (h2 : n * bytes ≤ 140737488355328) : oMk (E := E) e size bytes z (.int .i64 (.ofNat n)) (.int .i64 (.ofNat n)) h = .ok (.row h.next 0 n n) (WJ h (.cells e (repeatL z n))) := by
  have e1 : Nat.ble n 140737488355328 = true := UM h1
  have e2 : Nat.ble (n * bytes) 140737488355328 = true := UM h2
  simp only [oMk, Zr1, UW, AAct.eval, e1, e2, Bool.and_self, cond_true, Nat.beq_refl, Zac]
def Zdv (e : TypeId) (size bytes : Nat) (s x : D) (h : H) : O D := Wl h e size bytes s x
theorem Zz4 {e : TypeId} {size bytes : Nat} {x y : D} {c : Call} {a : AAct} : YE e size bytes (.d x) (.d y) E c a h = Zdv e size bytes x y h := by rw [Zvt]; rfl
theorem Zv6 {e : TypeId} {size bytes id m : Nat} {ys : List D} (hm : 0 < m) (ho : Xa ys = true) (hl : ys.length = m * size) (hz : 0 < size) (h1 : m * bytes ≤ 140737488355328) (h2 : m ≤ 140737488355328) :
    Zdv e size bytes (.v (.slice none 0 0)) (.sl id m ys) h = .ok (.sl h.next m ys) (WJ h (.tip m e)) := by
  have e0 : Nat.beq m 0 = false := by rw [V5]; exact decide_eq_false (by omega)
  have e1 : Nat.beq size 0 = false := by rw [V5]; exact decide_eq_false (by omega)
  have e2 : Nat.ble (m * bytes) 140737488355328 = true := UM h1
  have e3 : Nat.ble m 140737488355328 = true := UM h2
  simp only [Zdv, Wl, Yd, hl, Nat.beq_refl, cond_true, e0, cond_false, ho, e1, Bool.not_false, Bool.and_self, e2, e3, Zac]
theorem Zta {e : TypeId} {size bytes id k n m : Nat} {cs ys : List D} (ht : hget h.mem k = some (.tip n e)) (hm : 0 < m) (ho : Xa ys = true) (hl : ys.length = m * size) (hc : cs.length = n * size) (hz : 0 < size)
    (h1 : (n + m) * bytes ≤ 140737488355328) (h2 : n + m ≤ 140737488355328) :
    Zdv e size bytes (.sl k n cs) (.sl id m ys) h = .ok (.sl k (n + m) (cs ++ ys)) (Wq h k (.tip (n + m) e)) := by
  have e0 : Nat.beq m 0 = false := by rw [V5]; exact decide_eq_false (by omega)
  have e1 : Nat.beq size 0 = false := by rw [V5]; exact decide_eq_false (by omega)
  have e2 : Nat.ble ((n + m) * bytes) 140737488355328 = true := UM h1
  have e3 : Nat.ble (n + m) 140737488355328 = true := UM h2
  rw [Xh] at ht
  simp only [Zdv, Wl, Yd, hl, Nat.beq_refl, cond_true, e0, cond_false, ho, e1, Bool.not_false, Bool.and_self, e2, e3, ht, hc, Zd1]
theorem Zbv {d : D} {w : String} : Uu (some d) h w = .ok d h := rfl
theorem Zfo {m n : Nat} : Nat.ble m n = decide (m ≤ n) := by rw [Bool.eq_iff_iff]; simp only [Nat.ble_eq, decide_eq_true_eq]
theorem Zbe {w : Bool} : wanted Zj w = false := rfl
theorem Zt9 {b w : Bool} : wanted (.v (.bool b)) w = bif b then w else !w := by cases b <;> cases w <;> rfl
theorem Zfk : Zkv [] t = [] := rfl
theorem Zcb {gs : List (Tr D → D)} : Zkv (g :: gs) t = g t :: Zkv gs t := rfl
theorem UE {j : Nat} {ss : List (D → Tr D → Tr D)} : Zc7 j ss [] t = t := by cases ss <;> rfl
theorem Vs {j : Nat} {s : D → Tr D → Tr D} {ss : List (D → Tr D → Tr D)} {x : D} {xs : List D} : Zc7 j (s :: ss) (x :: xs) t = Zc7 (j + 1) ss xs (s x t) := rfl
theorem UK {kk : IntKind} {n : Int} : (D.int kk n).cells = [.int kk n] := rfl
theorem UF {l : List Nat} : (D.str l).cells = [.str l] := rfl
theorem UL {cs : List D} : (D.agg cs).cells = cs := rfl
theorem Zch {id n : Nat} {cs : List D} : (D.sl id n cs).cells = [.sl id n cs] := rfl
theorem UG {a b c d : Nat} : (D.row a b c d).cells = [.row a b c d] := rfl
theorem UJ {l : Nat} : (D.map l).cells = [.map l] := rfl
theorem UH {l o : Nat} : (D.ptr l o).cells = [.ptr l o] := rfl
theorem Vt {b : Bool} : (D.v (.bool b)).cells = [.v (.bool b)] := rfl
theorem UI : (D.v (.slice none 0 0)).cells = [.v (.slice none 0 0)] := rfl
theorem Ze2 : Xa [] = true := rfl
theorem Zbt {d : D} {r : List D} : Xa (d :: r) = (d.one && Xa r) := rfl
theorem Ze4 {kk : IntKind} {n : Int} : (D.int kk n).one = true := rfl
theorem Zez {l : List Nat} : (D.str l).one = true := rfl
theorem Zi4 {id n : Nat} {cs : List D} : (D.sl id n cs).one = true := rfl
theorem Ze0 {a b c d : Nat} : (D.row a b c d).one = true := rfl
theorem Ze3 {l : Nat} : (D.map l).one = true := rfl
theorem Ze1 {l o : Nat} : (D.ptr l o).one = true := rfl
theorem Zbu {b : Bool} : (D.v (.bool b)).one = true := rfl
theorem Zbs : (D.v (.slice none 0 0)).one = true := rfl
def oOne (o : Option (List D)) (h : H) : O D :=
  match o with
  | some cs => .ok (.agg cs) h
  | none => .fail "results"
theorem Uw {cs : List D} : oOne (some cs) h = .ok (.agg cs) h := rfl
theorem Zcg {n s : Nat} {c : CC} : YH ⟨[.cN n s], c⟩ (act t) h = oOne (Zk h (Gt n t) s) h := by
  simp only [Znr, Zan, WE, Gt, geq]
  cases Zk h ((act t).eval (.t n)) s <;> rfl
def Z8x (o : Option (List D)) (d : D) (h : H) : O D :=
  match o with
  | some cs => .ok (.tup [.agg cs, d]) h
  | none => .fail "results"
theorem Uv {cs : List D} {d : D} : Z8x (some cs) d h = .ok (.tup [.agg cs, d]) h := rfl
theorem Zcf {n s m : Nat} {c : CC} : YH ⟨[.cN n s, .t m], c⟩ (act t) h = Z8x (Zk h (Gt n t) s) (Gt m t) h := by
  simp only [Znr, Zan, WE, Gt, geq]
  cases Zk h ((act t).eval (.t n)) s <;> rfl
theorem Zsu {m : Nat} (hm : m ≤ 9223372036854775807) : Zf2 .i64 (.ofNat m) = .ofNat m := by
  have : Nat.ble m (Z2i .i64) = true := UM hm
  simp only [Zf2, this, cond_true]
theorem iAdd_n {m n : Nat} : iAdd (.ofNat m) (.ofNat n) = .ofNat (m + n) := rfl
theorem Zp3 {m n : Nat} : Zb7 (.ofNat m) (.ofNat n) = Nat.beq m n := rfl
theorem Zp2 {m n : Nat} : iLt (.ofNat m) (.ofNat n) = Nat.blt m n := rfl
theorem UN {m n : Nat} (hm : m + n ≤ 9223372036854775807) : Y2 .i64 (.ofNat m) (.ofNat n) = .int .i64 (.ofNat (m + n)) := by
  simp only [Y2, iAdd_n, Zsu hm]
theorem Zc3 {j : Nat} : YR j [] = false := rfl
theorem Vk {x : D} {cs : List D} : XP inc x cs [] = true := rfl
theorem Uq {x y : D} {cs ds : List D} {j : Nat} : XP inc x cs (.rd j y ds :: recs) = XP inc x cs recs := rfl
theorem Vr : Xm inc h [] = true := rfl
theorem WT {j : Nat} {h0 : H} : Xm inc h (.loud j h0 :: recs) = Xm inc h recs := rfl
theorem Wp : Xm [] h recs = true := by
  induction recs with
  | nil => rfl
  | cons r l ih => cases r <;> simp only [Xm, Zc3, Bool.not_false, Bool.true_or, Bool.true_and, ih]
end
end
end Go.Abs
namespace Go.Abs
noncomputable section
theorem WP.mono {E : Env} {T : Nat → ZE} {c : FC} {t : Tr D} {h : H} {M Q : Uc} (hc : WP E T c t h M) (hq : ∀ e t' h', M e t' h' → Q e t' h') : WP E T c t h Q := by
  obtain ⟨e, t1, h1, hr, hm⟩ := hc
  exact ⟨e, t1, h1, hr, hq _ _ _ hm⟩
def Gr (h h' : H) : Prop := h.next ≤ h'.next ∧ ∀ l, l < h.next → hget h'.mem l = hget h.mem l
theorem Gr.refl (h : H) : Gr h h := ⟨Nat.le_refl _, fun _ _ => rfl⟩
theorem Gr.trans {a b c : H} (h : Gr a b) (k : Gr b c) : Gr a c := ⟨Nat.le_trans h.1 k.1, fun l hl => (k.2 l (Nat.lt_of_lt_of_le hl h.1)).trans (h.2 l hl)⟩
theorem Gr.new {a b : H} (h : Gr a b) (o : AObj) : Gr a (WJ b o) := ⟨Nat.le_succ_of_le h.1, fun l hl => (YG (Nat.ne_of_lt (Nat.lt_of_lt_of_le hl h.1))).trans (h.2 l hl)⟩
theorem Gr.put {a b : H} (h : Gr a b) {k : Nat} (hk : a.next ≤ k) (o : AObj) : Gr a (Wq b k o) := ⟨h.1, fun l hl => (Yn (Nat.ne_of_lt (Nat.lt_of_lt_of_le hl hk))).trans (h.2 l hl)⟩
theorem Z39 {gs : List D} {i : Nat} {d : D} (hi : i < gs.length) : gs.take i ++ [d] ++ gs.drop (i + 1) = gs.set i d := by
  rw [List.set_eq_take_append_cons_drop, if_pos hi, List.append_assoc]; rfl
def Z5g (o : Option (List D)) (cs : List D) : Bool :=
  match o with
  | some ds => YP cs ds
  | none => false
theorem Vm {cs ds : List D} : Z5g (some ds) cs = YP cs ds := rfl
theorem Ws {inc : List Nat} {x : D} {cs : List D} {j : Nat} {h0 : H} {recs : List Rec} : XP inc x cs (.loud j h0 :: recs) = ((!YR j inc || Z5g (Zk h0 x cs.length) cs) && XP inc x cs recs) := rfl
theorem Vq {inc : List Nat} {h : H} {x : D} {cs : List D} {j : Nat} {recs : List Rec} : Xm inc h (.rd j x cs :: recs) = ((!YR j inc || Z5g (Zk h x cs.length) cs) && Xm inc h recs) := rfl
def Z5f (o : Option AObj) (e size bytes k n m : Nat) (cs ys : List D) (h : H) : O D :=
  match o with
  | some (.tip k' u) => bif Nat.beq k' n && Nat.beq u e && Nat.beq cs.length (n * size) && Nat.ble ((n + m) * bytes) 140737488355328 && Nat.ble (n + m) 140737488355328 then .ok (.sl k (n + m) (cs ++ ys)) (Wq h k (.tip (n + m) e)) else .fail "append: not the tip"
  | _ => .fail "append: no tip"
theorem Zkl {e size bytes k n id m : Nat} {cs ys : List D} {h : H} : Zdv e size bytes (.sl k n cs) (.sl id m ys) h = bif Nat.beq ys.length (m * size) then (bif Nat.beq m 0 then .ok (.sl k n cs) h else bif Xa ys && Nat.beq ys.length (m * size) && !Nat.beq size 0 then Z5f (hget h.mem k) e size bytes k n m cs ys h else .fail "append: cells") else .fail "append: what?" := by
  cases hb : Nat.beq ys.length (m * size)
  · simp only [Zdv, Wl, Yd, hb, cond_false]
  · simp only [Zdv, Wl, Yd, Z5f, Xh, Zd1, hb, cond_true]
    rfl
theorem Zhd {e size bytes id m : Nat} {ys : List D} {h : H} : Zdv e size bytes (.v (.slice none 0 0)) (.sl id m ys) h = bif Nat.beq ys.length (m * size) then (bif Nat.beq m 0 then .ok (.v (.slice none 0 0)) h else bif Xa ys && Nat.beq ys.length (m * size) && !Nat.beq size 0 then (bif Nat.ble (m * bytes) 140737488355328 && Nat.ble m 140737488355328 then .ok (.sl h.next m ys) (WJ h (.tip m e)) else .fail "append: size") else .fail "append: cells") else .fail "append: what?" := by
  cases hb : Nat.beq ys.length (m * size)
  · simp only [Zdv, Wl, Yd, hb, cond_false]
  · simp only [Zdv, Wl, Yd, Zac, hb, cond_true]
theorem oTip_ok {e size bytes k n m : Nat} {cs ys : List D} {h : H} (hc : cs.length = n * size) (h1 : (n + m) * bytes ≤ 140737488355328) (h2 : n + m ≤ 140737488355328) : Z5f (some (.tip n e)) e size bytes k n m cs ys h = .ok (.sl k (n + m) (cs ++ ys)) (Wq h k (.tip (n + m) e)) := by
  simp only [Z5f, Nat.beq_refl, hc, UM h1, UM h2, Bool.and_self, cond_true]
theorem mem_cons {i j : Nat} {r : List Nat} : YR i (j :: r) = (Nat.beq i j || YR i r) := rfl
theorem Uo (c : Int) : YP [.int .i64 c] [.int .i64 c] = true := by simp only [YP, D.same, decide_true, Bool.and_self]
theorem Zpq {h : H} {recs : List Rec} : (Xm [] h recs = true) ↔ True := by rw [Wp]; exact ⟨fun _ => trivial, fun _ => rfl⟩
theorem Zo7 {inc : List Nat} {x : D} {cs : List D} : (XP inc x cs [] = true) ↔ True := ⟨fun _ => trivial, fun _ => rfl⟩
section
variable {E : Env} {T : Nat → ZE}
variable {t : Tr D} {h : H} {Q : Uc} {p : D → Tr D → Tr D} {k : FR} {g g1 g2 : Tr D → D} {kd : FD} {recs : List Rec}
def Z5n (d : D) (h : H) : O D := Zkd (.d d) ⟨default, fun _ => none, fun _ => none, fun _ => none⟩ Yb (act .nil) h
theorem oB2s_sl {id n : Nat} {cs : List D} {l : List Nat} (hn : cs.length = n) (hl : V4 cs = some l) : Z5n (.sl id n cs) h = .ok (.str l) h := by
  subst hn
  simp only [Z5n, Zvs, Zbr, AAct.eval, Yd, Nat.mul_one, Nat.beq_refl, cond_true, hl]
theorem Zb2 : Z5n (.v (.slice none 0 0)) h = .ok (.str []) h := rfl
def Z0b (d : D) (h : H) : O D :=
  match d with
  | .str l => .ok (.int .i64 (.ofNat l.length)) h
  | _ => .fail "len"
theorem Zvm {E : Env} {d : D} {c : Call} {a : AAct} {h : H} : Va (.d d) E c a h = Z0b d h := by rw [Zr2]; rfl
theorem Uy {l : List Nat} : Z0b (.str l) h = .ok (.int .i64 (.ofNat l.length)) h := rfl
def Zpj (lo hi : Option D) (x : D) (h : H) : O D :=
  match x with
  | .str s => match XV s.length s.length lo hi with
    | some (l, k) => .ok (.str ((s.drop l).take (k - l))) h
    | none => .fail "slice: string"
  | _ => .fail "slice: string"
theorem Zd0 (c : Call) (lo hi : Option (Tr D → D)) : XQ g lo hi E c t h = Zpj (lo.map (· t)) (hi.map (· t)) (g t) h := by
  have e := Zsh (.d (g t)) (lo.map fun f => .d (f t)) (hi.map fun f => .d (f t)) E c t h
  have e1 : XQ (fe (.d (g t))) (Zyy (lo.map fun f => .d (f t))) (Zyy (hi.map fun f => .d (f t))) E c t h = XQ g lo hi E c t h := by
    cases lo <;> cases hi <;> rfl
  rw [← e1, e]
  cases lo <;> cases hi <;> rfl
theorem Zhb {s : List Nat} {n : Nat} {kk : IntKind} (hn : n ≤ s.length) : Zpj none (some (.int kk (.ofNat n))) (.str s) h = .ok (.str (s.take n)) h := by
  simp only [Zpj, XV, Z21, loD, UM hn, cond_true, List.drop_zero, Nat.sub_zero]
theorem cat_str {op : TypeId} {ox oy : Operand} {a b : List Nat} (hl : a.length + b.length ≤ 140737488355328) : Zcr E .add op ox oy (.str a) (.str b) = some (.str (a ++ b)) := by
  simp only [Zcr, VZ, UM hl, cond_true]
end
end
end Go.Abs
