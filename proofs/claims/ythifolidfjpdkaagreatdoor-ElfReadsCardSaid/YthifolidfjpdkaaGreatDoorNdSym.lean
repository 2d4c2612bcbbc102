/- The quick code, run by rules: for what is not closed. -/
import Derived.Test.YthifolidfjpdkaaGreatDoorNdFast
set_option linter.unusedVariables false
set_option linter.unusedSimpArgs false
namespace Go.Abs
noncomputable section
section
variable {E : Env} {T : Nat → Yd}
def Ev (E : Env) (T : Nat → Yd) (f : Nat) (args : List D) (h : H) (o : O D) : Prop := ∃ N, ∀ n, N ≤ n → ZY E T n f args h = o
def Uw (E : Env) (T : Nat → Yd) (c : FC) (t : Tr D) (h : H) (x : XT) : Prop := ∃ N, ∀ n m, N ≤ n → N ≤ m → c E (ZY E T n) m t h = x
def Ztc (E : Env) (T : Nat → Yd) (r : FR) (t : Tr D) (h : H) (x : XT) : Prop := ∃ N, ∀ n, N ≤ n → r E (ZY E T n) t h = x
def Zk0 (E : Env) (T : Nat → Yd) (r : FD) (recs : List Rec) (t : Tr D) (h : H) (x : XT) : Prop := ∃ N, ∀ n, N ≤ n → r E (ZY E T n) recs t h = x
theorem Zn5 {t : Tr D} {h : H} : Uw E T ZJ t h (.out .normal t h) := ⟨1, fun n m hn hm => by cases m with
  | zero => omega
  | succ m => rfl⟩
theorem Zn7 {id : Nat} {t : Tr D} {h : H} : Uw E T (WS id) t h (.out (.exit id) t h) := ⟨1, fun n m hn hm => by cases m with
  | zero => omega
  | succ m => rfl⟩
theorem Zrh {t : Tr D} {h : H} : Uw E T ZF t h (.out .ret t h) := ⟨1, fun n m hn hm => by cases m with
  | zero => omega
  | succ m => rfl⟩
theorem Zze {r : FR} {t : Tr D} {h : H} {x : XT} (hr : Ztc E T r t h x) : Uw E T (Z7 r) t h x := by
  obtain ⟨N, hN⟩ := hr
  refine ⟨N + 1, fun n m hn hm => ?_⟩
  cases m with
  | zero => omega
  | succ m => exact hN n (by omega)
theorem Zw0 {r : FD} {t : Tr D} {h : H} {x : XT} (hr : Zk0 E T r [] t h x) : Uw E T (YY r) t h x := by
  obtain ⟨N, hN⟩ := hr
  refine ⟨N + 1, fun n m hn hm => ?_⟩
  cases m with
  | zero => omega
  | succ m => exact hN n (by omega)
theorem Zrg {a b : FC} {t t1 : Tr D} {h h1 : H} {x : XT} (ha : Uw E T a t h (.out .normal t1 h1)) (hb : Uw E T b t1 h1 x) : Uw E T (Z2 a b) t h x := by
  obtain ⟨N, hN⟩ := ha
  obtain ⟨M, hM⟩ := hb
  refine ⟨N + M + 1, fun n m hn hm => ?_⟩
  cases m with
  | zero => omega
  | succ m =>
    show XT.casesOn (motive := fun _ => XT) (a E (ZY E T n) m t h) _ _ _ = x
    rw [hN n m (by omega) (by omega)]
    exact hM n m (by omega) (by omega)
def Z0k : AExit → Prop
  | .normal => False
  | _ => True
theorem Zb5 {a b : FC} {t t1 : Tr D} {h h1 : H} {e : AExit} (ha : Uw E T a t h (.out e t1 h1)) (he : Z0k e) : Uw E T (Z2 a b) t h (.out e t1 h1) := by
  obtain ⟨N, hN⟩ := ha
  refine ⟨N + 1, fun n m hn hm => ?_⟩
  cases m with
  | zero => omega
  | succ m =>
    show XT.casesOn (motive := fun _ => XT) (a E (ZY E T n) m t h) _ _ _ = _
    rw [hN n m (by omega) (by omega)]
    cases e with
    | normal => exact he.elim
    | exit id => rfl
    | ret => rfl
theorem Zgu {g : Tr D → D} {a b : FC} {t : Tr D} {h : H} {x : XT} (v : Bool) (hg : g t = .v (.bool v)) (hx : Uw E T (bif v then a else b) t h x) : Uw E T (Zt g a b) t h x := by
  obtain ⟨N, hN⟩ := hx
  refine ⟨N + 1, fun n m hn hm => ?_⟩
  cases m with
  | zero => omega
  | succ m =>
    have := hN n m (by omega) (by omega)
    simp only [Zt, hg]
    cases v <;> exact this
def Znd (id : Nat) : AExit → AExit
  | .exit k => bif Nat.beq k id then .normal else .exit k
  | e => e
theorem Zlv {a : FC} {id : Nat} {t t1 : Tr D} {h h1 : H} {e : AExit} (ha : Uw E T a t h (.out e t1 h1)) : Uw E T (ZM id a) t h (.out (Znd id e) t1 h1) := by
  obtain ⟨N, hN⟩ := ha
  refine ⟨N + 1, fun n m hn hm => ?_⟩
  cases m with
  | zero => omega
  | succ m =>
    show XT.casesOn (motive := fun _ => XT) (a E (ZY E T n) m t h) _ _ _ = _
    rw [hN n m (by omega) (by omega)]
    cases e with
    | normal => rfl
    | exit k => simp only [Znd]; cases Nat.beq k id <;> rfl
    | ret => rfl
theorem Zn6 {a : FC} {t t1 : Tr D} {h h1 : H} {x : XT} (ha : Uw E T a t h (.out .normal t1 h1)) (hx : Uw E T (Xi a) t1 h1 x) : Uw E T (Xi a) t h x := by
  obtain ⟨N, hN⟩ := ha
  obtain ⟨M, hM⟩ := hx
  refine ⟨N + M + 1, fun n m hn hm => ?_⟩
  cases m with
  | zero => omega
  | succ m =>
    simp only [Zfd]
    rw [hN n m (by omega) (by omega)]
    exact hM n m (by omega) (by omega)
theorem Zbc {a : FC} {t t1 : Tr D} {h h1 : H} {e : AExit} (ha : Uw E T a t h (.out e t1 h1)) (he : Z0k e) : Uw E T (Xi a) t h (.out e t1 h1) := by
  obtain ⟨N, hN⟩ := ha
  refine ⟨N + 1, fun n m hn hm => ?_⟩
  cases m with
  | zero => omega
  | succ m =>
    simp only [Zfd]
    rw [hN n m (by omega) (by omega)]
    cases e with
    | normal => exact he.elim
    | exit id => rfl
    | ret => rfl
theorem Zzf {t : Tr D} {h : H} : Ztc E T Z8 t h (.out .normal t h) := ⟨0, fun n _ => rfl⟩
theorem Zzg {recs : List Rec} {t : Tr D} {h : H} : Zk0 E T YZ recs t h (.out .normal t h) := ⟨0, fun n _ => rfl⟩
theorem Z2u {f : Zb0} {p : D → Tr D → Tr D} {k : FR} {t : Tr D} {h h1 : H} {d : D} {x : XT} (hf : ∀ call, f E call t h = .ok d h1) (hk : Ztc E T k (p d t) h1 x) : Ztc E T (fo f p k) t h x := by
  obtain ⟨N, hN⟩ := hk
  refine ⟨N, fun n hn => ?_⟩
  show O.casesOn (motive := fun _ => XT) (f E (ZY E T n) t h) _ _ _ = x
  rw [hf]
  exact hN n hn
theorem Zw1 {f : Nat} {gs : List (Tr D → D)} {p : D → Tr D → Tr D} {k : FR} {t : Tr D} {h h1 : H} {d : D} {x : XT} (hf : Ev E T f (Zkl gs t) h (.ok d h1)) (hk : Ztc E T k (p d t) h1 x) : Ztc E T (fo (ZW f gs) p k) t h x := by
  obtain ⟨N, hN⟩ := hk
  obtain ⟨M, hM⟩ := hf
  refine ⟨N + M, fun n hn => ?_⟩
  show O.casesOn (motive := fun _ => XT) (ZY E T n f (Zkl gs t) h) _ _ _ = x
  rw [hM n (by omega)]
  exact hN n (by omega)
theorem Z2v {f : Zb0} {p : D → Tr D → Tr D} {k : FD} {recs : List Rec} {t : Tr D} {h h1 : H} {d : D} {x : XT} (hf : ∀ call, f E call t h = .ok d h1) (hk : Zk0 E T k recs (p d t) h1 x) : Zk0 E T (Zu f p k) recs t h x := by
  obtain ⟨N, hN⟩ := hk
  refine ⟨N, fun n hn => ?_⟩
  show O.casesOn (motive := fun _ => XT) (f E (ZY E T n) t h) _ _ _ = x
  rw [hf]
  exact hN n hn
theorem Zw2 {i n : Nat} {inc : List Nat} {g : Tr D → D} {f : Zb0} {p : D → Tr D → Tr D} {k : FD} {recs : List Rec} {t : Tr D} {h h1 : H} {d : D} {cs : List D} {x : XT} (hf : ∀ call, f E call t h = .ok d h1) (hc : Zi h (g t) n = some cs) (ho : Xe inc (g t) cs recs = true)
    (hk : Zk0 E T k (.rd i (g t) cs :: recs) (p d t) h1 x) : Zk0 E T (Xj i inc n g f p k) recs t h x := by
  obtain ⟨N, hN⟩ := hk
  refine ⟨N, fun m hm => ?_⟩
  show O.casesOn (motive := fun _ => XT) (f E (ZY E T m) t h) _ _ _ = x
  rw [hf]
  simp only [Zbt, Ze1, Z1x, hc, ho, cond_true]
  exact hN m hm
theorem Zw3 {i : Nat} {inc : List Nat} {f : Zb0} {p : D → Tr D → Tr D} {k : FD} {recs : List Rec} {t : Tr D} {h h1 : H} {d : D} {x : XT} (hf : ∀ call, f E call t h = .ok d h1) (ho : Yz inc h1 recs = true)
    (hk : Zk0 E T k (.loud i h :: recs) (p d t) h1 x) : Zk0 E T (Zfw i inc f p k) recs t h x := by
  obtain ⟨N, hN⟩ := hk
  refine ⟨N, fun m hm => ?_⟩
  show O.casesOn (motive := fun _ => XT) (f E (ZY E T m) t h) _ _ _ = x
  rw [hf]
  simp only [Zdp, ho, cond_true]
  exact hN m hm
theorem Zw4 {i : Nat} {inc : List Nat} {f : Nat} {gs : List (Tr D → D)} {p : D → Tr D → Tr D} {k : FD} {recs : List Rec} {t : Tr D} {h h1 : H} {d : D} {x : XT} (hf : Ev E T f (Zkl gs t) h (.ok d h1)) (ho : Yz inc h1 recs = true)
    (hk : Zk0 E T k (.loud i h :: recs) (p d t) h1 x) : Zk0 E T (Zfw i inc (ZW f gs) p k) recs t h x := by
  obtain ⟨N, hN⟩ := hk
  obtain ⟨M, hM⟩ := hf
  refine ⟨N + M, fun m hm => ?_⟩
  show O.casesOn (motive := fun _ => XT) (ZY E T m f (Zkl gs t) h) _ _ _ = x
  rw [hM m (by omega)]
  simp only [Zdp, ho, cond_true]
  exact hN m (by omega)
def ends : AExit → Prop
  | .exit _ => False
  | _ => True
theorem ev_fn {f : Nat} {ss : List (D → Tr D → Tr D)} {res : Tr D → H → O D} {body : FC} {args : List D} {h h1 : H} {t1 : Tr D} {e : AExit} {o : O D} (hT : T f = Uz ss res body) (hb : Uw E T body (Zcw 0 ss args .nil) h (.out e t1 h1)) (he : ends e) (ho : res t1 h1 = o) : Ev E T f args h o := by
  obtain ⟨N, hN⟩ := hb
  refine ⟨N + 1, fun n hn => ?_⟩
  cases n with
  | zero => omega
  | succ n =>
    show T f E n (ZY E T n) args h = o
    rw [hT]
    show XT.casesOn (motive := fun _ => O D) (body E (ZY E T n) n (Zcw 0 ss args .nil) h) _ _ _ = o
    rw [hN n n (by omega) (by omega)]
    cases e with
    | normal => exact ho
    | exit id => exact he.elim
    | ret => exact ho
theorem ev_lib {f : Nat} {g : List D → H → O D} {args : List D} {h : H} {o : O D} (hT : T f = Xb g) (ho : g args h = o) : Ev E T f args h o :=
  ⟨1, fun n hn => by
    cases n with
    | zero => omega
    | succ n => show T f E n (ZY E T n) args h = o; rw [hT]; exact ho⟩
def Gt (i : Nat) (t : Tr D) : D := gF (i + 1) i t
def St (j : Nat) (v : D) (t : Tr D) : Tr D := pF (j + 1) j v t
theorem Zex (i j : Nat) (v : D) (t : Tr D) : Gt i (St j v t) = if i = j then v else Gt i t := by
  simp only [Gt, St, Zsk _ _ _ (Nat.lt_succ_self i), Zog]
  show getD' ((t.set j (some v)).get i) = _
  rw [Tr.get_set]
  split <;> rfl
theorem Zef (v : D) (t : Tr D) : p0 v t = t := rfl
theorem Zen (d : D) (t : Tr D) : kD d t = d := rfl
theorem Xh {h : H} {o : AObj} {l : Nat} (e : l = h.next) : hget (Ua h o).mem l = some o := by
  subst e
  simp only [Ua, Yg, Zg1, Tr.get_set, if_true]
theorem Yw {h : H} {o : AObj} {l : Nat} (a : l < h.next + 1) (b : ¬ l < h.next) : hget (Ua h o).mem l = some o := Xh (by omega)
theorem ZG {h : H} {o : AObj} {l : Nat} (e : l ≠ h.next) : hget (Ua h o).mem l = hget h.mem l := by
  simp only [Ua, Yg, Zg1, Tr.get_set, if_neg e]
theorem Zsj {h : H} {o : AObj} {l k : Nat} (e : l = k) : hget (YX h k o).mem l = some o := by
  subst e
  simp only [YX, Yg, Zg1, Tr.get_set, if_true]
theorem Zr {h : H} {o : AObj} {k : Nat} : hget (YX h k o).mem k = some o := Zsj rfl
theorem Zv {h : H} {o : AObj} {l k : Nat} (e : l ≠ k) : hget (YX h k o).mem l = hget h.mem l := by
  simp only [YX, Yg, Zg1, Tr.get_set, if_neg e]
theorem Z1 (h : H) (o : AObj) : (Ua h o).next = h.next + 1 := rfl
theorem Z0 (h : H) (l : Nat) (o : AObj) : (YX h l o).next = h.next := rfl
end
end
end Go.Abs
namespace Go.Abs
noncomputable section
section
variable {E : Env} {T : Nat → Yd}
abbrev UD := AExit → Tr D → H → Prop
def WP (E : Env) (T : Nat → Yd) (c : FC) (t : Tr D) (h : H) (Q : UD) : Prop := ∃ e t' h', Uw E T c t h (.out e t' h') ∧ Q e t' h'
def WC (E : Env) (T : Nat → Yd) (f : Nat) (args : List D) (h : H) (Q : D → H → Prop) : Prop := ∃ d h', Ev E T f args h (.ok d h') ∧ Q d h'
def ZD : Call := fun _ _ _ => .fail ""
def Kseq (E : Env) (T : Nat → Yd) (b : FC) (Q : UD) : UD := fun e t h =>
  match e with
  | .normal => WP E T b t h Q
  | .exit i => Q (.exit i) t h
  | .ret => Q .ret t h
def Z1t (id : Nat) (Q : UD) : UD := fun e t h => Q (Znd id e) t h
def sB (E : Env) (T : Nat → Yd) (d : D) (a b : FC) (t : Tr D) (h : H) (Q : UD) : Prop :=
  match d with
  | .v (.bool v) => bif v then WP E T a t h Q else WP E T b t h Q
  | _ => False
def sC (o : O D) (Q : D → H → Prop) : Prop :=
  match o with
  | .ok d h => Q d h
  | _ => False
theorem Za7 {id : Nat} {Q : UD} {t : Tr D} {h : H} : Z1t id Q .normal t h ↔ Q .normal t h := Iff.rfl
theorem Za6 {id : Nat} {Q : UD} {t : Tr D} {h : H} : Z1t id Q .ret t h ↔ Q .ret t h := Iff.rfl
theorem Za8 {id i : Nat} {Q : UD} {t : Tr D} {h : H} : Z1t id Q (.exit i) t h ↔ Q (bif Nat.beq i id then .normal else .exit i) t h := Iff.rfl
theorem Zd9 {d : D} {h : H} {Q : D → H → Prop} : sC (.ok d h) Q ↔ Q d h := Iff.rfl
theorem WC.mono {f : Nat} {args : List D} {h : H} {Q Q' : D → H → Prop} (hc : WC E T f args h Q) (hq : ∀ d h', Q d h' → Q' d h') : WC E T f args h Q' := by
  obtain ⟨d, h1, he, h2⟩ := hc
  exact ⟨d, h1, he, hq _ _ h2⟩
theorem wp_skip {t : Tr D} {h : H} {Q : UD} (hq : Q .normal t h) : WP E T ZJ t h Q := ⟨_, _, _, Zn5, hq⟩
theorem wp_exit {i : Nat} {t : Tr D} {h : H} {Q : UD} (hq : Q (.exit i) t h) : WP E T (WS i) t h Q := ⟨_, _, _, Zn7, hq⟩
theorem wp_ret {t : Tr D} {h : H} {Q : UD} (hq : Q .ret t h) : WP E T ZF t h Q := ⟨_, _, _, Zrh, hq⟩
theorem wp_seq {a b : FC} {t : Tr D} {h : H} {Q : UD} (hq : WP E T a t h (Kseq E T b Q)) : WP E T (Z2 a b) t h Q := by
  obtain ⟨e, t1, h1, hr, hq⟩ := hq
  cases e with
  | normal =>
    obtain ⟨e, t', h', hr', hq⟩ := hq
    exact ⟨_, _, _, Zrg hr hr', hq⟩
  | exit i => exact ⟨_, _, _, Zb5 hr trivial, hq⟩
  | ret => exact ⟨_, _, _, Zb5 hr trivial, hq⟩
theorem wp_block {a : FC} {id : Nat} {t : Tr D} {h : H} {Q : UD} (hq : WP E T a t h (Z1t id Q)) : WP E T (ZM id a) t h Q := by
  obtain ⟨e, t1, h1, hr, hq⟩ := hq
  exact ⟨_, _, _, Zlv hr, hq⟩
theorem wp_cond {g : Tr D → D} {a b : FC} {t : Tr D} {h : H} {Q : UD} (hq : sB E T (g t) a b t h Q) : WP E T (Zt g a b) t h Q := by
  unfold sB at hq
  split at hq
  · rename_i v hv
    cases v with
    | true =>
      obtain ⟨e, t', h', hr, hq⟩ := hq
      exact ⟨_, _, _, Zgu true hv hr, hq⟩
    | false =>
      obtain ⟨e, t', h', hr, hq⟩ := hq
      exact ⟨_, _, _, Zgu false hv hr, hq⟩
  · exact hq.elim
end
end
end Go.Abs
namespace Go.Abs
noncomputable section
theorem Zbz {m n : Nat} (h : m ≤ n) : Nat.ble m n = true := by rw [Nat.ble_eq]; exact h
section
variable {E : Env} {T : Nat → Yd} {p : D → Tr D → Tr D} {k : FR} {kd : FD} {recs : List Rec} {t : Tr D} {h : H} {Q : UD} {g g1 g2 g3 : Tr D → D} {i : Nat} {inc : List Nat}
def oFa (n : Nat) (d : D) (h : H) : O D :=
  match d with
  | .ptr l o => .ok (.ptr l (o + n)) h
  | .ep cs => .ok (.ep (cs.drop n)) h
  | _ => .fail "fieldAddr"
theorem Vt {n l o : Nat} : oFa n (.ptr l o) h = .ok (.ptr l (o + n)) h := rfl
theorem Zaw {n : Nat} {cs : List D} : oFa n (.ep cs) h = .ok (.ep (cs.drop n)) h := rfl
def Zz6 (d : D) (h : H) : O D :=
  match d with
  | .ptr l off => .ok (.ptr l off) h
  | .ep cs => .ok (.ep cs) h
  | .func (.func f) x y => .ok (.func (.func f) x y) h
  | .v (.func (.func f) x y) => .ok (.v (.func (.func f) x y)) h
  | _ => .fail "nil"
theorem Wk {l o : Nat} : Zz6 (.ptr l o) h = .ok (.ptr l o) h := rfl
theorem Vq {cs : List D} : Zz6 (.ep cs) h = .ok (.ep cs) h := rfl
def Zhr (d : D) (h : H) : O D :=
  match d with
  | .sl _ n _ => .ok (.int .i64 (.ofNat n)) h
  | .row _ _ n _ => .ok (.int .i64 (.ofNat n)) h
  | .v (.slice none 0 0) => .ok (.int .i64 (.ofNat 0)) h
  | _ => .fail "len"
theorem Vr {id n : Nat} {cs : List D} : Zhr (.sl id n cs) h = .ok (.int .i64 (.ofNat n)) h := rfl
theorem Wm {l o n c : Nat} : Zhr (.row l o n c) h = .ok (.int .i64 (.ofNat n)) h := rfl
theorem Wn : Zhr (.v (.slice none 0 0)) h = .ok (.int .i64 (.ofNat 0)) h := rfl
def Zxd (i : Nat) (d : D) (h : H) : O D :=
  match d with
  | .tup ds => Uy (ds[i]?) h "extract"
  | _ => .fail "extract"
theorem Zaz {a : D} {r : List D} : Zxd 0 (.tup (a :: r)) h = .ok a h := rfl
theorem Zay {a b : D} {r : List D} : Zxd 1 (.tup (a :: b :: r)) h = .ok b h := rfl
theorem Zax {a b c : D} {r : List D} : Zxd 2 (.tup (a :: b :: c :: r)) h = .ok c h := rfl
def oNot (E : Env) (d : D) (h : H) : O D := Zft .not (.d d) E ZD (act .nil) h
theorem Xo {b : Bool} : oNot E (.v (.bool b)) h = .ok (.v (.bool !b)) h := by cases b <;> rfl
def Zbw (size : Nat) (x i : D) (h : H) : O D := Uy (Zcv size x i) h "index: slice"
theorem VY {size id n i : Nat} {kk : IntKind} {cs : List D} {c : D} {r : List D} (hi : i < n) (hc : cs.drop (i * size) = c :: r) : Zbw size (.sl id n cs) (.int kk (.ofNat i)) h = .ok (.ep (c :: r)) h := by
  have : Nat.blt i n = true := by rw [XU]; exact decide_eq_true hi
  simp only [Zbw, Zcv, VF, this, cond_true, hc, Uy]
theorem Zga {size l o n c i : Nat} {kk : IntKind} (hi : i < n) : Zbw size (.row l o n c) (.int kk (.ofNat i)) h = .ok (.ptr l (o + i * size)) h := by
  have : Nat.blt i n = true := by rw [XU]; exact decide_eq_true hi
  simp only [Zbw, Zcv, VF, this, cond_true, Uy]
def oSl (size : Nat) (x : D) (hi : D) (h : H) : O D := Uy (Zi4 size x none (some hi)) h "slice"
theorem W1 {size : Nat} : oSl size (.v (.slice none 0 0)) (.int .i64 (.ofNat 0)) h = .ok (.v (.slice none 0 0)) h := rfl
def Zjw (size id n : Nat) (cs : List D) (m : Nat) : D := bif Nat.beq m n then .sl id n cs else .sl 0 m (cs.take (m * size))
theorem Zt0 {size id n m : Nat} {cs : List D} (hm : m ≤ n) : oSl size (.sl id n cs) (.int .i64 (.ofNat m)) h = .ok (Zjw size id n cs m) h := by
  have h1 : Nat.ble m n = true := Zbz hm
  have h3 : Nat.beq 0 0 = true := rfl
  simp only [oSl, Zi4, Xf, Zxo, Z1y, h1, cond_true, Nat.zero_mul, List.drop_zero, Nat.sub_zero, Zjw, h3, Bool.true_and]
  cases Nat.beq m n <;> rfl
def oRd (o : Option AObj) (off n : Nat) : Option (List D) :=
  match o with
  | some (.cells _ cs) => bif Nat.beq ((cs.drop off).take n).length n then some ((cs.drop off).take n) else none
  | _ => none
theorem Zao {l off n : Nat} : Zi h (.ptr l off) n = oRd (hget h.mem l) off n := by
  rw [Yg]; rfl
def Zpv (cs : List D) (n : Nat) : Option (List D) := bif Nat.beq (cs.take n).length n then some (cs.take n) else none
theorem Zeb {cs : List D} {n : Nat} : Zi h (.ep cs) n = Zpv cs n := rfl
def Zvt (o : Option (List D)) (h : H) : O D :=
  match o with
  | some [d] => .ok d h
  | _ => .fail "load"
def Zvs (o : Option (List D)) (h : H) : O D :=
  match o with
  | some cs => .ok (.agg cs) h
  | none => .fail "loadN"
theorem Xr {d : D} : Zvt (some [d]) h = .ok d h := rfl
theorem Xq {cs : List D} : Zvs (some cs) h = .ok (.agg cs) h := rfl
theorem Z0v : ZO g E ZD t h = Zvt (Zi h (g t) 1) h := Zv8 g E ZD t h (.d (g t)) rfl
theorem Z0u {n : Nat} : Yy n g E ZD t h = Zvs (Zi h (g t) n) h := Zv7 n g E ZD t h (.d (g t)) rfl
def oSt (n : Nat) (a x : D) (h : H) : O D :=
  match a with
  | .ptr l off => match hget h.mem l with
    | some (.cells ty cs) =>
      bif Nat.beq x.cells.length n && Y8 x.cells then
        match patch cs off x.cells with
        | some cs => .ok ZT (YX h l (.cells ty cs))
        | none => .fail "store"
      else .fail "store"
    | _ => .fail "store"
  | _ => .fail "store"
theorem Z0r {n : Nat} {c : Call} : ZV n g1 g2 E c t h = oSt n (g1 t) (g2 t) h := by
  unfold ZV oSt
  simp only [Zgc, Nat.zero_add, Zk6, Zps, Zci]
  cases g1 t <;> try rfl
  rename_i l off
  show Zhs (hget h.mem l) _ _ = _
  simp only
  cases hget h.mem l with
  | none => rfl
  | some o => cases o <;> try rfl
              rename_i ty cs
              show Bool.rec (motive := fun _ => O D) _ _ _ = _
              simp only
              cases Nat.beq (g2 t).cells.length n with
              | false => rfl
              | true => cases Y8 (g2 t).cells with
                | false => rfl
                | true => simp only [Bool.and_self, cond_true]; cases patch cs off (g2 t).cells <;> rfl
def Zfu (E : Env) (f : IntKind → Int → Int → D) (op : BinOp) (ty : TypeId) (ox oy : Operand) (x y : D) (h : H) : O D :=
  match x with
  | .int k a => match y with
    | .int k' b => bif kEq k k' then .ok (f k a b) h else Uy (Zbs E op ty ox oy (.int k a) (.int k' b)) h "bin"
    | y => Uy (Zbs E op ty ox oy (.int k a) y) h "bin"
  | x => Uy (Zbs E op ty ox oy x y) h "bin"
theorem Zzr {f : IntKind → Int → Int → D} {op : BinOp} {ty : TypeId} {ox oy : Operand} {c : Call} : Zq f op ty ox oy g1 g2 E c t h = Zfu E f op ty ox oy (g1 t) (g2 t) h := by
  unfold Zq Zfu
  generalize g1 t = x
  generalize g2 t = y
  cases x <;> try rfl
  · cases y <;> try rfl
    rename_i k a k' b
    show Bool.rec (motive := fun _ => O D) _ _ (kEq k k') = bif kEq k k' then _ else _
    cases kEq k k' <;> rfl
  · cases y <;> try rfl
    exact Zvj ..
theorem Zvf {d : D} {c : Call} {a : AAct} : YI (.d d) E c a h = Zhr d h := by rw [Zl3]; rfl
theorem Zve {d : D} {c : Call} {a : AAct} : Zo (.d d) E c a h = Zz6 d h := by rw [Zdj]; rfl
theorem Zzo {n : Nat} {d : D} {c : Call} {a : AAct} : ZL n (.d d) E c a h = oFa n d h := by rw [Zpo]; rfl
theorem Zvh {n : Nat} {d : D} {c : Call} {a : AAct} : Zc9 n (.d d) E c a h = Zxd n d h := by rw [Zl8]; rfl
theorem Zvg {n : Nat} {d e : D} {c : Call} {a : AAct} : Ym n (.d d) (.d e) E c a h = Zbw n d e h := by rw [Zl4]; rfl
theorem Zzm {n : Nat} {d e : D} {c : Call} {a : AAct} : Zf4 n (.d d) none (some (.d e)) E c a h = oSl n d e h := by rw [Zjc]; rfl
theorem Wo {f : IntKind → Int → Int → D} {op : BinOp} {ty : TypeId} {ox oy : Operand} {kk : IntKind} {a b : Int} : Zfu E f op ty ox oy (.int kk a) (.int kk b) h = .ok (f kk a b) h := by
  have : kEq kk kk = true := by cases kk <;> rfl
  simp only [Zfu, this, cond_true]
def Zvq (c x y : D) (h : H) : O D :=
  match c with
  | .v (.bool b) => .ok (bif b then x else y) h
  | _ => .fail "pick"
theorem Zv6 {c : Call} : Xa g1 g2 g3 E c t h = Zvq (g1 t) (g2 t) (g3 t) h := by
  unfold Xa
  cases g1 t <;> try rfl
  rename_i v
  cases v <;> try rfl
  rename_i b
  cases b <;> rfl
theorem Vp {b : Bool} {x y : D} : Zvq (.v (.bool b)) x y h = .ok (bif b then x else y) h := rfl
def Zt5 (o : Option (List D)) (h : H) : O D :=
  match o with
  | some cs => .ok (.agg cs) h
  | none => .fail "build"
theorem Yu {cs : List D} : Zt5 (some cs) h = .ok (.agg cs) h := rfl
def Zmj (o : Option (List D)) (e : TypeId) (len : Nat) (h : H) : O D :=
  match o with
  | some cs => .ok (.sl h.next len cs) (Ua h (.tip len e))
  | none => .fail "buildSl"
theorem Y5 {cs : List D} {e : TypeId} {len : Nat} : Zmj (some cs) e len h = .ok (.sl h.next len cs) (Ua h (.tip len e)) := rfl
theorem Xt {cells : List D} : WK t cells [] = some cells := rfl
def oFill (o : Option (List D)) (t : Tr D) (r : List (Nat × Nat × (Tr D → D))) : Option (List D) :=
  match o with
  | some cells => WK t cells r
  | none => none
theorem YS {cells : List D} {r : List (Nat × Nat × (Tr D → D))} : oFill (some cells) t r = WK t cells r := rfl
def Zz8 (z x k : D) (h : H) : O D := Zdk 0 z (.d x) (.d k) true E ZD (act .nil) h
def oFind (o : Option (Option D)) (z : D) (h : H) : O D :=
  match o with
  | some (some d) => .ok (.tup [d, .v (.bool true)]) h
  | some none => .ok (.tup [z, .v (.bool false)]) h
  | none => .fail "lookup: key"
theorem YQ {d z : D} : oFind (some (some d)) z h = .ok (.tup [d, .v (.bool true)]) h := rfl
theorem YR {z : D} : oFind (some none) z h = .ok (.tup [z, .v (.bool false)]) h := rfl
def Zz7 (m k x : D) (h : H) : O D := Ze3 0 (.d m) (.d k) (.d x) E ZD (act .nil) h
def oMk (e : TypeId) (size bytes : Nat) (z : List D) (l c : D) (h : H) : O D := Zje e size bytes z (.d l) (.d c) E ZD (act .nil) h
theorem Zk7 {e : TypeId} {size bytes n : Nat} {z : List D} (h1 : n ≤ 140737488355328) (h2 : n * bytes ≤ 140737488355328) : oMk (E := E) e size bytes z (.int .i64 (.ofNat n)) (.int .i64 (.ofNat n)) h = .ok (.row h.next 0 n n) (Ua h (.cells e (repeatL z n))) := by
  have e1 : Nat.ble n 140737488355328 = true := Zbz h1
  have e2 : Nat.ble (n * bytes) 140737488355328 = true := Zbz h2
  simp only [oMk, Zjd, Ui, AAct.eval, e1, e2, Bool.and_self, cond_true, Nat.beq_refl, Ur]
def Zht (e : TypeId) (size bytes : Nat) (s x : D) (h : H) : O D := W4 h e size bytes s x
theorem Zvi {e : TypeId} {size bytes : Nat} {x y : D} {c : Call} {a : AAct} : Zbl e size bytes (.d x) (.d y) E c a h = Zht e size bytes x y h := by rw [Zmc]; rfl
theorem Zgb {e : TypeId} {size bytes id m : Nat} {ys : List D} (hm : 0 < m) (ho : Y8 ys = true) (hl : ys.length = m * size) (hz : 0 < size) (h1 : m * bytes ≤ 140737488355328) (h2 : m ≤ 140737488355328) :
    Zht e size bytes (.v (.slice none 0 0)) (.sl id m ys) h = .ok (.sl h.next m ys) (Ua h (.tip m e)) := by
  have e0 : Nat.beq m 0 = false := by rw [Xg]; exact decide_eq_false (by omega)
  have e1 : Nat.beq size 0 = false := by rw [Xg]; exact decide_eq_false (by omega)
  have e2 : Nat.ble (m * bytes) 140737488355328 = true := Zbz h1
  have e3 : Nat.ble m 140737488355328 = true := Zbz h2
  simp only [Zht, W4, ZK, hl, Nat.beq_refl, cond_true, e0, cond_false, ho, e1, Bool.not_false, Bool.and_self, e2, e3, Ur]
theorem Zk8 {e : TypeId} {size bytes id k n m : Nat} {cs ys : List D} (ht : hget h.mem k = some (.tip n e)) (hm : 0 < m) (ho : Y8 ys = true) (hl : ys.length = m * size) (hc : cs.length = n * size) (hz : 0 < size)
    (h1 : (n + m) * bytes ≤ 140737488355328) (h2 : n + m ≤ 140737488355328) :
    Zht e size bytes (.sl k n cs) (.sl id m ys) h = .ok (.sl k (n + m) (cs ++ ys)) (YX h k (.tip (n + m) e)) := by
  have e0 : Nat.beq m 0 = false := by rw [Xg]; exact decide_eq_false (by omega)
  have e1 : Nat.beq size 0 = false := by rw [Xg]; exact decide_eq_false (by omega)
  have e2 : Nat.ble ((n + m) * bytes) 140737488355328 = true := Zbz h1
  have e3 : Nat.ble (n + m) 140737488355328 = true := Zbz h2
  rw [Yg] at ht
  simp only [Zht, W4, ZK, hl, Nat.beq_refl, cond_true, e0, cond_false, ho, e1, Bool.not_false, Bool.and_self, e2, e3, ht, hc, VS]
theorem Wj {d : D} {w : String} : Uy (some d) h w = .ok d h := rfl
theorem VH {m n : Nat} : Nat.ble m n = decide (m ≤ n) := by rw [Bool.eq_iff_iff]; simp only [Nat.ble_eq, decide_eq_true_eq]
theorem W5 {w : Bool} : wanted ZT w = false := rfl
theorem VG : Zkl [] t = [] := rfl
theorem Wu {gs : List (Tr D → D)} : Zkl (g :: gs) t = g t :: Zkl gs t := rfl
theorem Xu {j : Nat} {ss : List (D → Tr D → Tr D)} : Zcw j ss [] t = t := by cases ss <;> rfl
theorem YV {j : Nat} {s : D → Tr D → Tr D} {ss : List (D → Tr D → Tr D)} {x : D} {xs : List D} : Zcw j (s :: ss) (x :: xs) t = Zcw (j + 1) ss xs (s x t) := rfl
theorem XA {kk : IntKind} {n : Int} : (D.int kk n).cells = [.int kk n] := rfl
theorem Xv {l : List Nat} : (D.str l).cells = [.str l] := rfl
theorem XB {cs : List D} : (D.agg cs).cells = cs := rfl
theorem Wz {id n : Nat} {cs : List D} : (D.sl id n cs).cells = [.sl id n cs] := rfl
theorem Xw {a b c d : Nat} : (D.row a b c d).cells = [.row a b c d] := rfl
theorem Xz {l : Nat} : (D.map l).cells = [.map l] := rfl
theorem Xx {l o : Nat} : (D.ptr l o).cells = [.ptr l o] := rfl
theorem YW {b : Bool} : (D.v (.bool b)).cells = [.v (.bool b)] := rfl
theorem Xy : (D.v (.slice none 0 0)).cells = [.v (.slice none 0 0)] := rfl
theorem Vl : Y8 [] = true := rfl
theorem Wh {d : D} {r : List D} : Y8 (d :: r) = (d.one && Y8 r) := rfl
theorem Vn {kk : IntKind} {n : Int} : (D.int kk n).one = true := rfl
theorem Vi {l : List Nat} : (D.str l).one = true := rfl
theorem Zas {id n : Nat} {cs : List D} : (D.sl id n cs).one = true := rfl
theorem Vj {a b c d : Nat} : (D.row a b c d).one = true := rfl
theorem Vm {l : Nat} : (D.map l).one = true := rfl
theorem Vk {l o : Nat} : (D.ptr l o).one = true := rfl
theorem Wi {b : Bool} : (D.v (.bool b)).one = true := rfl
theorem Wg : (D.v (.slice none 0 0)).one = true := rfl
def oOne (o : Option (List D)) (h : H) : O D :=
  match o with
  | some cs => .ok (.agg cs) h
  | none => .fail "results"
theorem Xn {cs : List D} : oOne (some cs) h = .ok (.agg cs) h := rfl
theorem Wy {n s : Nat} {c : CC} : VU ⟨[.cN n s], c⟩ (act t) h = oOne (Zi h (Gt n t) s) h := by
  simp only [Zcg, Uv, YK, Gt, geq]
  cases Zi h ((act t).eval (.t n)) s <;> rfl
def oTwo (o : Option (List D)) (d : D) (h : H) : O D :=
  match o with
  | some cs => .ok (.tup [.agg cs, d]) h
  | none => .fail "results"
theorem Xm {cs : List D} {d : D} : oTwo (some cs) d h = .ok (.tup [.agg cs, d]) h := rfl
theorem Wx {n s m : Nat} {c : CC} : VU ⟨[.cN n s, .t m], c⟩ (act t) h = oTwo (Zi h (Gt n t) s) (Gt m t) h := by
  simp only [Zcg, Uv, YK, Gt, geq]
  cases Zi h ((act t).eval (.t n)) s <;> rfl
theorem Zgr {m : Nat} (hm : m ≤ 9223372036854775807) : Zb1 .i64 (.ofNat m) = .ofNat m := by
  have : Nat.ble m (Zsg .i64) = true := Zbz hm
  simp only [Zb1, this, cond_true]
theorem iAdd_n {m n : Nat} : iAdd (.ofNat m) (.ofNat n) = .ofNat (m + n) := rfl
theorem Zb3 {m n : Nat} : iEq (.ofNat m) (.ofNat n) = Nat.beq m n := rfl
theorem Zeo {m n : Nat} : iLt (.ofNat m) (.ofNat n) = Nat.blt m n := rfl
theorem X7 {m n : Nat} (hm : m + n ≤ 9223372036854775807) : YJ .i64 (.ofNat m) (.ofNat n) = .int .i64 (.ofNat (m + n)) := by
  simp only [YJ, iAdd_n, Zgr hm]
theorem WQ {j : Nat} : Ye j [] = false := rfl
theorem YN {x : D} {cs : List D} : Xe inc x cs [] = true := rfl
theorem Xl {x y : D} {cs ds : List D} {j : Nat} : Xe inc x cs (.rd j y ds :: recs) = Xe inc x cs recs := rfl
theorem YU : Yz inc h [] = true := rfl
theorem Yv {j : Nat} {h0 : H} : Yz inc h (.loud j h0 :: recs) = Yz inc h recs := rfl
theorem Yn : Yz [] h recs = true := by
  induction recs with
  | nil => rfl
  | cons r l ih => cases r <;> simp only [Yz, WQ, Bool.not_false, Bool.true_or, Bool.true_and, ih]
end
end
end Go.Abs
namespace Go.Abs
noncomputable section
theorem WP.mono {E : Env} {T : Nat → Yd} {c : FC} {t : Tr D} {h : H} {M Q : UD} (hc : WP E T c t h M) (hq : ∀ e t' h', M e t' h' → Q e t' h') : WP E T c t h Q := by
  obtain ⟨e, t1, h1, hr, hm⟩ := hc
  exact ⟨e, t1, h1, hr, hq _ _ _ hm⟩
def Gr (h h' : H) : Prop := h.next ≤ h'.next ∧ ∀ l, l < h.next → hget h'.mem l = hget h.mem l
theorem Gr.refl (h : H) : Gr h h := ⟨Nat.le_refl _, fun _ _ => rfl⟩
theorem Gr.trans {a b c : H} (h : Gr a b) (k : Gr b c) : Gr a c := ⟨Nat.le_trans h.1 k.1, fun l hl => (k.2 l (Nat.lt_of_lt_of_le hl h.1)).trans (h.2 l hl)⟩
theorem Gr.new {a b : H} (h : Gr a b) (o : AObj) : Gr a (Ua b o) := ⟨Nat.le_succ_of_le h.1, fun l hl => (ZG (Nat.ne_of_lt (Nat.lt_of_lt_of_le hl h.1))).trans (h.2 l hl)⟩
theorem Gr.put {a b : H} (h : Gr a b) {k : Nat} (hk : a.next ≤ k) (o : AObj) : Gr a (YX b k o) := ⟨h.1, fun l hl => (Zv (Nat.ne_of_lt (Nat.lt_of_lt_of_le hl hk))).trans (h.2 l hl)⟩
theorem head_at {size m i : Nat} {cs xs rest : List D} (hx : cs.drop (i * size) = xs ++ rest) (hl : xs.length = size) (hi : i < m) : ∃ rest', (cs.take (m * size)).drop (i * size) = xs ++ rest' := by
  have e : m * size - i * size = size + (m - i - 1) * size := by
    obtain ⟨j, rfl⟩ : ∃ j, m = i + 1 + j := ⟨m - i - 1, by omega⟩
    have : i + 1 + j - i - 1 = j := by omega
    rw [this, Nat.add_mul, Nat.add_mul, Nat.one_mul]
    omega
  refine ⟨rest.take ((m - i - 1) * size), ?_⟩
  rw [List.drop_take, hx, e, List.take_append, hl, List.take_of_length_le (by omega), Nat.add_sub_cancel_left]
theorem Zxq {size id n m : Nat} {cs : List D} (hm : m ≤ n) : ∃ id' cs', Zjw size id n cs m = .sl id' m cs' ∧ ∀ i xs rest, cs.drop (i * size) = xs ++ rest → xs.length = size → i < m → ∃ rest', cs'.drop (i * size) = xs ++ rest' := by
  unfold Zjw
  cases hb : Nat.beq m n with
  | true => exact ⟨id, cs, by rw [Nat.eq_of_beq_eq_true hb]; rfl, fun i xs rest hx _ _ => ⟨rest, hx⟩⟩
  | false => exact ⟨0, cs.take (m * size), rfl, fun i xs rest hx hl hi => head_at hx hl hi⟩
def Zz4 (o : Option (List D)) (cs : List D) : Bool :=
  match o with
  | some ds => Y6 cs ds
  | none => false
theorem YO {cs ds : List D} : Zz4 (some ds) cs = Y6 cs ds := rfl
theorem Yf {inc : List Nat} {x : D} {cs : List D} {j : Nat} {h0 : H} {recs : List Rec} : Xe inc x cs (.loud j h0 :: recs) = ((!Ye j inc || Zz4 (Zi h0 x cs.length) cs) && Xe inc x cs recs) := rfl
theorem YT {inc : List Nat} {h : H} {x : D} {cs : List D} {j : Nat} {recs : List Rec} : Yz inc h (.rd j x cs :: recs) = ((!Ye j inc || Zz4 (Zi h x cs.length) cs) && Yz inc h recs) := rfl
def Zz3 (o : Option AObj) (e size bytes k n m : Nat) (cs ys : List D) (h : H) : O D :=
  match o with
  | some (.tip k' u) => bif Nat.beq k' n && Nat.beq u e && Nat.beq cs.length (n * size) && Nat.ble ((n + m) * bytes) 140737488355328 && Nat.ble (n + m) 140737488355328 then .ok (.sl k (n + m) (cs ++ ys)) (YX h k (.tip (n + m) e)) else .fail "append: not the tip"
  | _ => .fail "append: no tip"
theorem XP {e size bytes k n id m : Nat} {cs ys : List D} {h : H} : Zht e size bytes (.sl k n cs) (.sl id m ys) h = bif Nat.beq ys.length (m * size) then (bif Nat.beq m 0 then .ok (.sl k n cs) h else bif Y8 ys && Nat.beq ys.length (m * size) && !Nat.beq size 0 then Zz3 (hget h.mem k) e size bytes k n m cs ys h else .fail "append: cells") else .fail "append: what?" := by
  cases hb : Nat.beq ys.length (m * size)
  · simp only [Zht, W4, ZK, hb, cond_false]
  · simp only [Zht, W4, ZK, Zz3, Yg, VS, hb, cond_true]
    rfl
theorem Xs {e size bytes id m : Nat} {ys : List D} {h : H} : Zht e size bytes (.v (.slice none 0 0)) (.sl id m ys) h = bif Nat.beq ys.length (m * size) then (bif Nat.beq m 0 then .ok (.v (.slice none 0 0)) h else bif Y8 ys && Nat.beq ys.length (m * size) && !Nat.beq size 0 then (bif Nat.ble (m * bytes) 140737488355328 && Nat.ble m 140737488355328 then .ok (.sl h.next m ys) (Ua h (.tip m e)) else .fail "append: size") else .fail "append: cells") else .fail "append: what?" := by
  cases hb : Nat.beq ys.length (m * size)
  · simp only [Zht, W4, ZK, hb, cond_false]
  · simp only [Zht, W4, ZK, Ur, hb, cond_true]
theorem Zid {e size bytes k n m : Nat} {cs ys : List D} {h : H} (hc : cs.length = n * size) (h1 : (n + m) * bytes ≤ 140737488355328) (h2 : n + m ≤ 140737488355328) : Zz3 (some (.tip n e)) e size bytes k n m cs ys h = .ok (.sl k (n + m) (cs ++ ys)) (YX h k (.tip (n + m) e)) := by
  simp only [Zz3, Nat.beq_refl, hc, Zbz h1, Zbz h2, Bool.and_self, cond_true]
theorem mem_cons {i j : Nat} {r : List Nat} : Ye i (j :: r) = (Nat.beq i j || Ye i r) := rfl
theorem Xk (c : Int) : Y6 [.int .i64 c] [.int .i64 c] = true := by simp only [Y6, D.same, decide_true, Bool.and_self]
theorem Zei {h : H} {recs : List Rec} : (Yz [] h recs = true) ↔ True := by rw [Yn]; exact ⟨fun _ => trivial, fun _ => rfl⟩
theorem Zea {inc : List Nat} {x : D} {cs : List D} : (Xe inc x cs [] = true) ↔ True := ⟨fun _ => trivial, fun _ => rfl⟩
section
variable {E : Env} {T : Nat → Yd}
variable {t : Tr D} {h : H} {Q : UD} {p : D → Tr D → Tr D} {k : FR} {g g1 g2 : Tr D → D} {kd : FD} {recs : List Rec}
def Z0b (d : D) (h : H) : O D := Zkf (.d d) ⟨default, fun _ => none, fun _ => none, fun _ => none⟩ ZD (act .nil) h
def Z25 (d : D) (h : H) : O D :=
  match d with
  | .str l => .ok (.sl 0 l.length (Yq l)) h
  | _ => .fail "s2b"
theorem Wr : Z0b (.v (.slice none 0 0)) h = .ok (.str []) h := rfl
theorem Zie {l n c : Nat} {ty : TypeId} {cs : List D} {bs : List Nat} (hm : hget h.mem l = some (.cells ty cs)) (hn : cs.length = n) (hl : W2 cs = some bs) : Z0b (.row l 0 n c) h = .ok (.str bs) h := by
  subst hn
  rw [Yg] at hm
  simp only [Z0b, Zma, Zbu, AAct.eval, ZK, Zi, hm, List.drop_zero, Nat.mul_one, List.take_length, Nat.beq_refl, cond_true, hl]
def Zvr (d : D) (h : H) : O D :=
  match d with
  | .str l => .ok (.int .i64 (.ofNat l.length)) h
  | _ => .fail "len"
theorem Zrp {E : Env} {d : D} {c : Call} {a : AAct} {h : H} : WD (.d d) E c a h = Zvr d h := by rw [Zjf]; rfl
theorem Xp {l : List Nat} : Zvr (.str l) h = .ok (.int .i64 (.ofNat l.length)) h := rfl
def Zf9 (lo hi : Option D) (x : D) (h : H) : O D :=
  match x with
  | .str s => match Xf s.length s.length lo hi with
    | some (l, k) => .ok (.str ((s.drop l).take (k - l))) h
    | none => .fail "slice: string"
  | _ => .fail "slice: string"
theorem Zep (c : Call) (lo hi : Option (Tr D → D)) : Zbx g lo hi E c t h = Zf9 (lo.map (· t)) (hi.map (· t)) (g t) h := by
  have e := Zov (.d (g t)) (lo.map fun f => .d (f t)) (hi.map fun f => .d (f t)) E c t h
  have e1 : Zbx (fe (.d (g t))) (Zth (lo.map fun f => .d (f t))) (Zth (hi.map fun f => .d (f t))) E c t h = Zbx g lo hi E c t h := by
    cases lo <;> cases hi <;> rfl
  rw [← e1, e]
  cases lo <;> cases hi <;> rfl
theorem Zxb {s : List Nat} {n : Nat} {kk : IntKind} (hn : n ≤ s.length) : Zf9 none (some (.int kk (.ofNat n))) (.str s) h = .ok (.str (s.take n)) h := by
  simp only [Zf9, Xf, Zxo, Z1y, Zbz hn, cond_true, List.drop_zero, Nat.sub_zero]
theorem cat_str {op : TypeId} {ox oy : Operand} {a b : List Nat} (hl : a.length + b.length ≤ 140737488355328) : Zbs E .add op ox oy (.str a) (.str b) = some (.str (a ++ b)) := by
  simp only [Zbs, Ul, Zbz hl, cond_true]
end
end
end Go.Abs
