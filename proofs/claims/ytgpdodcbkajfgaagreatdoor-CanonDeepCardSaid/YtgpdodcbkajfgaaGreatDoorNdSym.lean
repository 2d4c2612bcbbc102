/- The quick code, run by rules: for what is not closed. -/
import Derived.Test.YtgpdodcbkajfgaaGreatDoorNdFast
set_option linter.unusedVariables false
set_option linter.unusedSimpArgs false
namespace Go.Abs
section
variable {E : Env} {T : Nat → FFn}
def Ev (E : Env) (T : Nat → FFn) (f : Nat) (args : List D) (h : H) (o : O D) : Prop := ∃ N, ∀ n, N ≤ n → Yb E T n f args h = o
def XE (E : Env) (T : Nat → FFn) (c : FC) (t : Tr D) (h : H) (x : XT) : Prop := ∃ N, ∀ n m, N ≤ n → N ≤ m → c E (Yb E T n) m t h = x
def RunR (E : Env) (T : Nat → FFn) (r : FR) (t : Tr D) (h : H) (x : XT) : Prop := ∃ N, ∀ n, N ≤ n → r E (Yb E T n) t h = x
def RunD (E : Env) (T : Nat → FFn) (r : FD) (recs : List Rec) (t : Tr D) (h : H) (x : XT) : Prop := ∃ N, ∀ n, N ≤ n → r E (Yb E T n) recs t h = x
theorem runs_skip {t : Tr D} {h : H} : XE E T Z9 t h (.out .normal t h) := ⟨1, fun n m hn hm => by cases m with
  | zero => omega
  | succ m => rfl⟩
theorem runs_exit {id : Nat} {t : Tr D} {h : H} : XE E T (Yh id) t h (.out (.exit id) t h) := ⟨1, fun n m hn hm => by cases m with
  | zero => omega
  | succ m => rfl⟩
theorem runs_ret {t : Tr D} {h : H} : XE E T Ze t h (.out .ret t h) := ⟨1, fun n m hn hm => by cases m with
  | zero => omega
  | succ m => rfl⟩
theorem runs_reg {r : FR} {t : Tr D} {h : H} {x : XT} (hr : RunR E T r t h x) : XE E T (Z1 r) t h x := by
  obtain ⟨N, hN⟩ := hr
  refine ⟨N + 1, fun n m hn hm => ?_⟩
  cases m with
  | zero => omega
  | succ m => exact hN n (by omega)
theorem runs_dreg {r : FD} {t : Tr D} {h : H} {x : XT} (hr : RunD E T r [] t h x) : XE E T (Y1 r) t h x := by
  obtain ⟨N, hN⟩ := hr
  refine ⟨N + 1, fun n m hn hm => ?_⟩
  cases m with
  | zero => omega
  | succ m => exact hN n (by omega)
theorem runs_seq {a b : FC} {t t1 : Tr D} {h h1 : H} {x : XT} (ha : XE E T a t h (.out .normal t1 h1)) (hb : XE E T b t1 h1 x) : XE E T (Z0 a b) t h x := by
  obtain ⟨N, hN⟩ := ha
  obtain ⟨M, hM⟩ := hb
  refine ⟨N + M + 1, fun n m hn hm => ?_⟩
  cases m with
  | zero => omega
  | succ m =>
    show XT.casesOn (motive := fun _ => XT) (a E (Yb E T n) m t h) _ _ _ = x
    rw [hN n m (by omega) (by omega)]
    exact hM n m (by omega) (by omega)
def leaves : AExit → Prop
  | .normal => False
  | _ => True
theorem runs_seq_out {a b : FC} {t t1 : Tr D} {h h1 : H} {e : AExit} (ha : XE E T a t h (.out e t1 h1)) (he : leaves e) : XE E T (Z0 a b) t h (.out e t1 h1) := by
  obtain ⟨N, hN⟩ := ha
  refine ⟨N + 1, fun n m hn hm => ?_⟩
  cases m with
  | zero => omega
  | succ m =>
    show XT.casesOn (motive := fun _ => XT) (a E (Yb E T n) m t h) _ _ _ = _
    rw [hN n m (by omega) (by omega)]
    cases e with
    | normal => exact he.elim
    | exit id => rfl
    | ret => rfl
theorem runs_cond {g : Tr D → D} {a b : FC} {t : Tr D} {h : H} {x : XT} (v : Bool) (hg : g t = .v (.bool v)) (hx : XE E T (bif v then a else b) t h x) : XE E T (Z6 g a b) t h x := by
  obtain ⟨N, hN⟩ := hx
  refine ⟨N + 1, fun n m hn hm => ?_⟩
  cases m with
  | zero => omega
  | succ m =>
    have := hN n m (by omega) (by omega)
    simp only [Z6, hg]
    cases v <;> exact this
def blockOut (id : Nat) : AExit → AExit
  | .exit k => bif Nat.beq k id then .normal else .exit k
  | e => e
theorem runs_block {a : FC} {id : Nat} {t t1 : Tr D} {h h1 : H} {e : AExit} (ha : XE E T a t h (.out e t1 h1)) : XE E T (Zb id a) t h (.out (blockOut id e) t1 h1) := by
  obtain ⟨N, hN⟩ := ha
  refine ⟨N + 1, fun n m hn hm => ?_⟩
  cases m with
  | zero => omega
  | succ m =>
    show XT.casesOn (motive := fun _ => XT) (a E (Yb E T n) m t h) _ _ _ = _
    rw [hN n m (by omega) (by omega)]
    cases e with
    | normal => rfl
    | exit k => simp only [blockOut]; cases Nat.beq k id <;> rfl
    | ret => rfl
theorem runs_loop {a : FC} {t t1 : Tr D} {h h1 : H} {x : XT} (ha : XE E T a t h (.out .normal t1 h1)) (hx : XE E T (Y3 a) t1 h1 x) : XE E T (Y3 a) t h x := by
  obtain ⟨N, hN⟩ := ha
  obtain ⟨M, hM⟩ := hx
  refine ⟨N + M + 1, fun n m hn hm => ?_⟩
  cases m with
  | zero => omega
  | succ m =>
    simp only [Y3]
    rw [hN n m (by omega) (by omega)]
    exact hM n m (by omega) (by omega)
theorem runs_loop_out {a : FC} {t t1 : Tr D} {h h1 : H} {e : AExit} (ha : XE E T a t h (.out e t1 h1)) (he : leaves e) : XE E T (Y3 a) t h (.out e t1 h1) := by
  obtain ⟨N, hN⟩ := ha
  refine ⟨N + 1, fun n m hn hm => ?_⟩
  cases m with
  | zero => omega
  | succ m =>
    simp only [Y3]
    rw [hN n m (by omega) (by omega)]
    cases e with
    | normal => exact he.elim
    | exit id => rfl
    | ret => rfl
theorem runr_end {t : Tr D} {h : H} : RunR E T Z2 t h (.out .normal t h) := ⟨0, fun n _ => rfl⟩
theorem rund_end {recs : List Rec} {t : Tr D} {h : H} : RunD E T Y2 recs t h (.out .normal t h) := ⟨0, fun n _ => rfl⟩
theorem runr_op {f : FOp} {p : D → Tr D → Tr D} {k : FR} {t : Tr D} {h h1 : H} {d : D} {x : XT} (hf : ∀ call, f E call t h = .ok d h1) (hk : RunR E T k (p d t) h1 x) : RunR E T (fo f p k) t h x := by
  obtain ⟨N, hN⟩ := hk
  refine ⟨N, fun n hn => ?_⟩
  show O.casesOn (motive := fun _ => XT) (f E (Yb E T n) t h) _ _ _ = x
  rw [hf]
  exact hN n hn
theorem runr_call {f : Nat} {gs : List (Tr D → D)} {p : D → Tr D → Tr D} {k : FR} {t : Tr D} {h h1 : H} {d : D} {x : XT} (hf : Ev E T f (evs gs t) h (.ok d h1)) (hk : RunR E T k (p d t) h1 x) : RunR E T (fo (Zo f gs) p k) t h x := by
  obtain ⟨N, hN⟩ := hk
  obtain ⟨M, hM⟩ := hf
  refine ⟨N + M, fun n hn => ?_⟩
  show O.casesOn (motive := fun _ => XT) (Yb E T n f (evs gs t) h) _ _ _ = x
  rw [hM n (by omega)]
  exact hN n (by omega)
theorem rund_op {f : FOp} {p : D → Tr D → Tr D} {k : FD} {recs : List Rec} {t : Tr D} {h h1 : H} {d : D} {x : XT} (hf : ∀ call, f E call t h = .ok d h1) (hk : RunD E T k recs (p d t) h1 x) : RunD E T (fdo f p k) recs t h x := by
  obtain ⟨N, hN⟩ := hk
  refine ⟨N, fun n hn => ?_⟩
  show O.casesOn (motive := fun _ => XT) (f E (Yb E T n) t h) _ _ _ = x
  rw [hf]
  exact hN n hn
theorem rund_read {i n : Nat} {inc : List Nat} {g : Tr D → D} {f : FOp} {p : D → Tr D → Tr D} {k : FD} {recs : List Rec} {t : Tr D} {h h1 : H} {d : D} {cs : List D} {x : XT} (hf : ∀ call, f E call t h = .ok d h1) (hc : Za h (g t) n = some cs) (ho : X9 inc (g t) cs recs = true)
    (hk : RunD E T k (.rd i (g t) cs :: recs) (p d t) h1 x) : RunD E T (fdr i inc n g f p k) recs t h x := by
  obtain ⟨N, hN⟩ := hk
  refine ⟨N, fun m hm => ?_⟩
  show O.casesOn (motive := fun _ => XT) (f E (Yb E T m) t h) _ _ _ = x
  rw [hf]
  simp only [hc, ho, cond_true]
  exact hN m hm
theorem rund_loud {i : Nat} {inc : List Nat} {f : FOp} {p : D → Tr D → Tr D} {k : FD} {recs : List Rec} {t : Tr D} {h h1 : H} {d : D} {x : XT} (hf : ∀ call, f E call t h = .ok d h1) (ho : YL inc h1 recs = true)
    (hk : RunD E T k (.loud i h :: recs) (p d t) h1 x) : RunD E T (fdl i inc f p k) recs t h x := by
  obtain ⟨N, hN⟩ := hk
  refine ⟨N, fun m hm => ?_⟩
  show O.casesOn (motive := fun _ => XT) (f E (Yb E T m) t h) _ _ _ = x
  rw [hf]
  simp only [ho, cond_true]
  exact hN m hm
theorem rund_call {i : Nat} {inc : List Nat} {f : Nat} {gs : List (Tr D → D)} {p : D → Tr D → Tr D} {k : FD} {recs : List Rec} {t : Tr D} {h h1 : H} {d : D} {x : XT} (hf : Ev E T f (evs gs t) h (.ok d h1)) (ho : YL inc h1 recs = true)
    (hk : RunD E T k (.loud i h :: recs) (p d t) h1 x) : RunD E T (fdl i inc (Zo f gs) p k) recs t h x := by
  obtain ⟨N, hN⟩ := hk
  obtain ⟨M, hM⟩ := hf
  refine ⟨N + M, fun m hm => ?_⟩
  show O.casesOn (motive := fun _ => XT) (Yb E T m f (evs gs t) h) _ _ _ = x
  rw [hM m (by omega)]
  simp only [ho, cond_true]
  exact hN m (by omega)
def ends : AExit → Prop
  | .exit _ => False
  | _ => True
theorem ev_fn {f : Nat} {ss : List (D → Tr D → Tr D)} {res : Tr D → H → O D} {body : FC} {args : List D} {h h1 : H} {t1 : Tr D} {e : AExit} {o : O D} (hT : T f = ffn ss res body) (hb : XE E T body (fargs 0 ss args .nil) h (.out e t1 h1)) (he : ends e) (ho : res t1 h1 = o) : Ev E T f args h o := by
  obtain ⟨N, hN⟩ := hb
  refine ⟨N + 1, fun n hn => ?_⟩
  cases n with
  | zero => omega
  | succ n =>
    show T f E n (Yb E T n) args h = o
    rw [hT]
    show XT.casesOn (motive := fun _ => O D) (body E (Yb E T n) n (fargs 0 ss args .nil) h) _ _ _ = o
    rw [hN n n (by omega) (by omega)]
    cases e with
    | normal => exact ho
    | exit id => exact he.elim
    | ret => exact ho
theorem ev_lib {f : Nat} {g : List D → H → O D} {args : List D} {h : H} {o : O D} (hT : T f = flib g) (ho : g args h = o) : Ev E T f args h o :=
  ⟨1, fun n hn => by
    cases n with
    | zero => omega
    | succ n => show T f E n (Yb E T n) args h = o; rw [hT]; exact ho⟩
def Gt (i : Nat) (t : Tr D) : D := gF (i + 1) i t
def St (j : Nat) (v : D) (t : Tr D) : Tr D := pF (j + 1) j v t
theorem Gt_St (i j : Nat) (v : D) (t : Tr D) : Gt i (St j v t) = if i = j then v else Gt i t := by
  simp only [Gt, St, gF_eq _ _ _ (Nat.lt_succ_self i), pF_eq]
  show getD' ((t.set j (some v)).get i) = _
  rw [Tr.get_set]
  split <;> rfl
theorem p0_eq (v : D) (t : Tr D) : p0 v t = t := rfl
theorem kD_eq (d : D) (t : Tr D) : kD d t = d := rfl
theorem hget_new_eq {h : H} {o : AObj} {l : Nat} (e : l = h.next) : Zg (W8 h o).mem l = some o := by
  subst e
  simp only [W8, Xg, hset_eq, Tr.get_set, if_true]
theorem XR {h : H} {o : AObj} {l : Nat} (a : l < h.next + 1) (b : ¬ l < h.next) : Zg (W8 h o).mem l = some o := hget_new_eq (by omega)
theorem YA {h : H} {o : AObj} {l : Nat} (e : l ≠ h.next) : Zg (W8 h o).mem l = Zg h.mem l := by
  simp only [W8, Xg, hset_eq, Tr.get_set, if_neg e]
theorem XQ {h : H} {o : AObj} {l k : Nat} (e : l = k) : Zg (W7 h k o).mem l = some o := by
  subst e
  simp only [W7, Xg, hset_eq, Tr.get_set, if_true]
theorem X7 {h : H} {o : AObj} {k : Nat} : Zg (W7 h k o).mem k = some o := XQ rfl
theorem Yi {h : H} {o : AObj} {l k : Nat} (e : l ≠ k) : Zg (W7 h k o).mem l = Zg h.mem l := by
  simp only [W7, Xg, hset_eq, Tr.get_set, if_neg e]
theorem Z4 (h : H) (o : AObj) : (W8 h o).next = h.next + 1 := rfl
theorem Z3 (h : H) (l : Nat) (o : AObj) : (W7 h l o).next = h.next := rfl
end
end Go.Abs
namespace Go.Abs
section
variable {E : Env} {T : Nat → FFn}
abbrev Aft := AExit → Tr D → H → Prop
def WP (E : Env) (T : Nat → FFn) (c : FC) (t : Tr D) (h : H) (Q : Aft) : Prop := ∃ e t' h', XE E T c t h (.out e t' h') ∧ Q e t' h'
def WD (E : Env) (T : Nat → FFn) (r : FD) (recs : List Rec) (t : Tr D) (h : H) (Q : Aft) : Prop := ∃ e t' h', RunD E T r recs t h (.out e t' h') ∧ Q e t' h'
def WC (E : Env) (T : Nat → FFn) (f : Nat) (args : List D) (h : H) (Q : D → H → Prop) : Prop := ∃ d h', Ev E T f args h (.ok d h') ∧ Q d h'
def Yx : Call := fun _ _ _ => .fail ""
def Kseq (E : Env) (T : Nat → FFn) (b : FC) (Q : Aft) : Aft := fun e t h =>
  match e with
  | .normal => WP E T b t h Q
  | .exit i => Q (.exit i) t h
  | .ret => Q .ret t h
def Kblk (id : Nat) (Q : Aft) : Aft := fun e t h => Q (blockOut id e) t h
def sR (E : Env) (T : Nat → FFn) (o : O D) (c : Option (List D)) (i : Nat) (inc : List Nat) (a : D) (p : D → Tr D → Tr D) (k : FD) (recs : List Rec) (t : Tr D) (Q : Aft) : Prop :=
  match o, c with
  | .ok d h, some cs => X9 inc a cs recs = true ∧ WD E T k (.rd i a cs :: recs) (p d t) h Q
  | _, _ => False
def sL (E : Env) (T : Nat → FFn) (o : O D) (i : Nat) (inc : List Nat) (h0 : H) (p : D → Tr D → Tr D) (k : FD) (recs : List Rec) (t : Tr D) (Q : Aft) : Prop :=
  match o with
  | .ok d h => YL inc h recs = true ∧ WD E T k (.loud i h0 :: recs) (p d t) h Q
  | _ => False
def sB (E : Env) (T : Nat → FFn) (d : D) (a b : FC) (t : Tr D) (h : H) (Q : Aft) : Prop :=
  match d with
  | .v (.bool v) => bif v then WP E T a t h Q else WP E T b t h Q
  | _ => False
def sC (o : O D) (Q : D → H → Prop) : Prop :=
  match o with
  | .ok d h => Q d h
  | _ => False
theorem kblk_n {id : Nat} {Q : Aft} {t : Tr D} {h : H} : Kblk id Q .normal t h ↔ Q .normal t h := Iff.rfl
theorem kblk_r {id : Nat} {Q : Aft} {t : Tr D} {h : H} : Kblk id Q .ret t h ↔ Q .ret t h := Iff.rfl
theorem kblk_e {id i : Nat} {Q : Aft} {t : Tr D} {h : H} : Kblk id Q (.exit i) t h ↔ Q (bif Nat.beq i id then .normal else .exit i) t h := Iff.rfl
theorem sC_ok {d : D} {h : H} {Q : D → H → Prop} : sC (.ok d h) Q ↔ Q d h := Iff.rfl
theorem WC.mono {f : Nat} {args : List D} {h : H} {Q Q' : D → H → Prop} (hc : WC E T f args h Q) (hq : ∀ d h', Q d h' → Q' d h') : WC E T f args h Q' := by
  obtain ⟨d, h1, he, h2⟩ := hc
  exact ⟨d, h1, he, hq _ _ h2⟩
theorem wp_skip {t : Tr D} {h : H} {Q : Aft} (hq : Q .normal t h) : WP E T Z9 t h Q := ⟨_, _, _, runs_skip, hq⟩
theorem wp_exit {i : Nat} {t : Tr D} {h : H} {Q : Aft} (hq : Q (.exit i) t h) : WP E T (Yh i) t h Q := ⟨_, _, _, runs_exit, hq⟩
theorem wp_ret {t : Tr D} {h : H} {Q : Aft} (hq : Q .ret t h) : WP E T Ze t h Q := ⟨_, _, _, runs_ret, hq⟩
theorem wp_seq {a b : FC} {t : Tr D} {h : H} {Q : Aft} (hq : WP E T a t h (Kseq E T b Q)) : WP E T (Z0 a b) t h Q := by
  obtain ⟨e, t1, h1, hr, hq⟩ := hq
  cases e with
  | normal =>
    obtain ⟨e, t', h', hr', hq⟩ := hq
    exact ⟨_, _, _, runs_seq hr hr', hq⟩
  | exit i => exact ⟨_, _, _, runs_seq_out hr trivial, hq⟩
  | ret => exact ⟨_, _, _, runs_seq_out hr trivial, hq⟩
theorem wp_block {a : FC} {id : Nat} {t : Tr D} {h : H} {Q : Aft} (hq : WP E T a t h (Kblk id Q)) : WP E T (Zb id a) t h Q := by
  obtain ⟨e, t1, h1, hr, hq⟩ := hq
  exact ⟨_, _, _, runs_block hr, hq⟩
theorem wp_cond {g : Tr D → D} {a b : FC} {t : Tr D} {h : H} {Q : Aft} (hq : sB E T (g t) a b t h Q) : WP E T (Z6 g a b) t h Q := by
  unfold sB at hq
  split at hq
  · rename_i v hv
    cases v with
    | true =>
      obtain ⟨e, t', h', hr, hq⟩ := hq
      exact ⟨_, _, _, runs_cond true hv hr, hq⟩
    | false =>
      obtain ⟨e, t', h', hr, hq⟩ := hq
      exact ⟨_, _, _, runs_cond false hv hr, hq⟩
  · exact hq.elim
end
end Go.Abs
namespace Go.Abs
theorem ble_of {m n : Nat} (h : m ≤ n) : Nat.ble m n = true := by rw [Nat.ble_eq]; exact h
section
variable {E : Env} {T : Nat → FFn} {p : D → Tr D → Tr D} {k : FR} {kd : FD} {recs : List Rec} {t : Tr D} {h : H} {Q : Aft} {g g1 g2 g3 : Tr D → D} {i : Nat} {inc : List Nat}
def oFa (n : Nat) (d : D) (h : H) : O D :=
  match d with
  | .ptr l o => .ok (.ptr l (o + n)) h
  | .ep cs => .ok (.ep (cs.drop n)) h
  | _ => .fail "fieldAddr"
theorem oFa_ptr {n l o : Nat} : oFa n (.ptr l o) h = .ok (.ptr l (o + n)) h := rfl
theorem oFa_ep {n : Nat} {cs : List D} : oFa n (.ep cs) h = .ok (.ep (cs.drop n)) h := rfl
def oNil (d : D) (h : H) : O D :=
  match d with
  | .ptr l off => .ok (.ptr l off) h
  | .ep cs => .ok (.ep cs) h
  | .func (.func f) x y => .ok (.func (.func f) x y) h
  | .v (.func (.func f) x y) => .ok (.v (.func (.func f) x y)) h
  | _ => .fail "nil"
theorem oNil_ptr {l o : Nat} : oNil (.ptr l o) h = .ok (.ptr l o) h := rfl
theorem oNil_ep {cs : List D} : oNil (.ep cs) h = .ok (.ep cs) h := rfl
def oLen (d : D) (h : H) : O D :=
  match d with
  | .sl _ n _ => .ok (.int .i64 (.ofNat n)) h
  | .row _ _ n _ => .ok (.int .i64 (.ofNat n)) h
  | .v (.slice none 0 0) => .ok (.int .i64 (.ofNat 0)) h
  | _ => .fail "len"
theorem oLen_sl {id n : Nat} {cs : List D} : oLen (.sl id n cs) h = .ok (.int .i64 (.ofNat n)) h := rfl
theorem oLen_row {l o n c : Nat} : oLen (.row l o n c) h = .ok (.int .i64 (.ofNat n)) h := rfl
theorem oLen_nil : oLen (.v (.slice none 0 0)) h = .ok (.int .i64 (.ofNat 0)) h := rfl
def oExt (i : Nat) (d : D) (h : H) : O D :=
  match d with
  | .tup ds => ok? (ds[i]?) h "extract"
  | _ => .fail "extract"
theorem oExt_0 {a : D} {r : List D} : oExt 0 (.tup (a :: r)) h = .ok a h := rfl
theorem oExt_1 {a b : D} {r : List D} : oExt 1 (.tup (a :: b :: r)) h = .ok b h := rfl
theorem oExt_2 {a b c : D} {r : List D} : oExt 2 (.tup (a :: b :: c :: r)) h = .ok c h := rfl
def oNot (E : Env) (d : D) (h : H) : O D := r_un .not (.d d) E Yx (act .nil) h
theorem oNot_bool {b : Bool} : oNot E (.v (.bool b)) h = .ok (.v (.bool !b)) h := rfl
def oIxs (size : Nat) (x i : D) (h : H) : O D := ok? (indexSlD size x i) h "index: slice"
theorem oIxs_sl {size id n i : Nat} {kk : IntKind} {cs : List D} {c : D} {r : List D} (hi : i < n) (hc : cs.drop (i * size) = c :: r) : oIxs size (.sl id n cs) (.int kk (.ofNat i)) h = .ok (.ep (c :: r)) h := by
  have : Nat.blt i n = true := by rw [blt_dec]; exact decide_eq_true hi
  simp only [oIxs, indexSlD, inRange, this, cond_true, hc, ok?]
theorem oIxs_row {size l o n c i : Nat} {kk : IntKind} (hi : i < n) : oIxs size (.row l o n c) (.int kk (.ofNat i)) h = .ok (.ptr l (o + i * size)) h := by
  have : Nat.blt i n = true := by rw [blt_dec]; exact decide_eq_true hi
  simp only [oIxs, indexSlD, inRange, this, cond_true, ok?]
def oSl (size : Nat) (x : D) (hi : D) (h : H) : O D := ok? (sliceD size x none (some hi)) h "slice"
theorem oSl_nil {size : Nat} : oSl size (.v (.slice none 0 0)) (.int .i64 (.ofNat 0)) h = .ok (.v (.slice none 0 0)) h := rfl
def oRd (o : Option AObj) (off n : Nat) : Option (List D) :=
  match o with
  | some (.cells _ cs) => bif Nat.beq ((cs.drop off).take n).length n then some ((cs.drop off).take n) else none
  | _ => none
theorem rc_ptr {l off n : Nat} : Za h (.ptr l off) n = oRd (Zg h.mem l) off n := by
  rw [Xg]; rfl
def oEp (cs : List D) (n : Nat) : Option (List D) := bif Nat.beq (cs.take n).length n then some (cs.take n) else none
theorem rc_ep {cs : List D} {n : Nat} : Za h (.ep cs) n = oEp cs n := rfl
theorem oRd_at {ty : TypeId} {cs xs : List D} {off n : Nat} (hx : (cs.drop off).take n = xs) (hn : xs.length = n) : oRd (some (.cells ty cs)) off n = some xs := by
  simp only [oRd, hx, hn, Nat.beq_refl, cond_true]
def oLd1' (o : Option (List D)) (h : H) : O D :=
  match o with
  | some [d] => .ok d h
  | _ => .fail "load"
def oLdN' (o : Option (List D)) (h : H) : O D :=
  match o with
  | some cs => .ok (.agg cs) h
  | none => .fail "loadN"
theorem oLd1_some {d : D} : oLd1' (some [d]) h = .ok d h := rfl
theorem oLdN_some {cs : List D} : oLdN' (some cs) h = .ok (.agg cs) h := rfl
theorem fld1_o : Zh g E Yx t h = oLd1' (Za h (g t) 1) h := fld1_eq g E Yx t h (.d (g t)) rfl
theorem fldN_o {n : Nat} : ZT n g E Yx t h = oLdN' (Za h (g t) n) h := fldN_eq n g E Yx t h (.d (g t)) rfl
def oSt (n : Nat) (a x : D) (h : H) : O D :=
  match a with
  | .ptr l off => match Zg h.mem l with
    | some (.cells ty cs) =>
      bif Nat.beq x.cells.length n && X5 x.cells then
        match patch cs off x.cells with
        | some cs => .ok Yr (W7 h l (.cells ty cs))
        | none => .fail "store"
      else .fail "store"
    | _ => .fail "store"
  | _ => .fail "store"
theorem patch_at {cs xs ys : List D} {off : Nat} (hl : off + xs.length ≤ cs.length) (hy : cs.take off ++ xs ++ cs.drop (off + xs.length) = ys) : patch cs off xs = some ys := by
  have : Nat.ble (off + xs.length) cs.length = true := ble_of hl
  simp only [patch, this, cond_true, hy]
def oInt (E : Env) (f : IntKind → Int → Int → D) (op : BinOp) (ty : TypeId) (ox oy : Operand) (x y : D) (h : H) : O D :=
  match x with
  | .int k a => match y with
    | .int k' b => bif kEq k k' then .ok (f k a b) h else ok? (binD E op ty ox oy (.int k a) (.int k' b)) h "bin"
    | y => ok? (binD E op ty ox oy (.int k a) y) h "bin"
  | x => ok? (binD E op ty ox oy x y) h "bin"
theorem oInt_int {f : IntKind → Int → Int → D} {op : BinOp} {ty : TypeId} {ox oy : Operand} {kk : IntKind} {a b : Int} : oInt E f op ty ox oy (.int kk a) (.int kk b) h = .ok (f kk a b) h := by
  have : kEq kk kk = true := by cases kk <;> rfl
  simp only [oInt, this, cond_true]
def oPick (c x y : D) (h : H) : O D :=
  match c with
  | .v (.bool b) => .ok (bif b then x else y) h
  | _ => .fail "pick"
theorem oPick_b {b : Bool} {x y : D} : oPick (.v (.bool b)) x y h = .ok (bif b then x else y) h := rfl
def oBuild (o : Option (List D)) (h : H) : O D :=
  match o with
  | some cs => .ok (.agg cs) h
  | none => .fail "build"
theorem XO {cs : List D} : oBuild (some cs) h = .ok (.agg cs) h := rfl
def oBuildSl (o : Option (List D)) (e : TypeId) (len : Nat) (h : H) : O D :=
  match o with
  | some cs => .ok (.sl h.next len cs) (W8 h (.tip len e))
  | none => .fail "buildSl"
theorem Xj {cs : List D} {e : TypeId} {len : Nat} : oBuildSl (some cs) e len h = .ok (.sl h.next len cs) (W8 h (.tip len e)) := rfl
theorem ffill_nil {cells : List D} : ffill t cells [] = some cells := rfl
def oFill (o : Option (List D)) (t : Tr D) (r : List (Nat × Nat × (Tr D → D))) : Option (List D) :=
  match o with
  | some cells => ffill t cells r
  | none => none
theorem oFill_some {cells : List D} {r : List (Nat × Nat × (Tr D → D))} : oFill (some cells) t r = ffill t cells r := rfl
def oLook (z x k : D) (h : H) : O D := r_look 0 z (.d x) (.d k) true E Yx (act .nil) h
def oFind (o : Option (Option D)) (z : D) (h : H) : O D :=
  match o with
  | some (some d) => .ok (.tup [d, .v (.bool true)]) h
  | some none => .ok (.tup [z, .v (.bool false)]) h
  | none => .fail "lookup: key"
theorem oFind_some {d z : D} : oFind (some (some d)) z h = .ok (.tup [d, .v (.bool true)]) h := rfl
theorem oFind_none {z : D} : oFind (some none) z h = .ok (.tup [z, .v (.bool false)]) h := rfl
def oMset (m k x : D) (h : H) : O D := r_mset 0 (.d m) (.d k) (.d x) E Yx (act .nil) h
def oMk (e : TypeId) (size bytes : Nat) (z : List D) (l c : D) (h : H) : O D := XK e size bytes z (.d l) (.d c) E Yx (act .nil) h
theorem oMk_row {e : TypeId} {size bytes n : Nat} {z : List D} (h1 : n ≤ 140737488355328) (h2 : n * bytes ≤ 140737488355328) : oMk (E := E) e size bytes z (.int .i64 (.ofNat n)) (.int .i64 (.ofNat n)) h = .ok (.row h.next 0 n n) (W8 h (.cells e (XG z n))) := by
  have e1 : Nat.ble n 140737488355328 = true := ble_of h1
  have e2 : Nat.ble (n * bytes) 140737488355328 = true := ble_of h2
  simp only [oMk, XK, AAct.eval, e1, e2, Bool.and_self, cond_true, Nat.beq_refl, fnew_eq]
def oApp (e : TypeId) (size bytes : Nat) (s x : D) (h : H) : O D := XI h e size bytes s x
theorem oApp_nil {e : TypeId} {size bytes id m : Nat} {ys : List D} (hm : 0 < m) (ho : X5 ys = true) (hl : ys.length = m * size) (hz : 0 < size) (h1 : m * bytes ≤ 140737488355328) (h2 : m ≤ 140737488355328) :
    oApp e size bytes (.v (.slice none 0 0)) (.sl id m ys) h = .ok (.sl h.next m ys) (W8 h (.tip m e)) := by
  have e0 : Nat.beq m 0 = false := by rw [XY]; exact decide_eq_false (by omega)
  have e1 : Nat.beq size 0 = false := by rw [XY]; exact decide_eq_false (by omega)
  have e2 : Nat.ble (m * bytes) 140737488355328 = true := ble_of h1
  have e3 : Nat.ble m 140737488355328 = true := ble_of h2
  simp only [oApp, XI, Yo, hl, Nat.beq_refl, cond_true, e0, cond_false, ho, e1, Bool.not_false, Bool.and_self, e2, e3, fnew_eq]
theorem oApp_sl {e : TypeId} {size bytes id k n m : Nat} {cs ys : List D} (ht : Zg h.mem k = some (.tip n e)) (hm : 0 < m) (ho : X5 ys = true) (hl : ys.length = m * size) (hc : cs.length = n * size) (hz : 0 < size)
    (h1 : (n + m) * bytes ≤ 140737488355328) (h2 : n + m ≤ 140737488355328) :
    oApp e size bytes (.sl k n cs) (.sl id m ys) h = .ok (.sl k (n + m) (cs ++ ys)) (W7 h k (.tip (n + m) e)) := by
  have e0 : Nat.beq m 0 = false := by rw [XY]; exact decide_eq_false (by omega)
  have e1 : Nat.beq size 0 = false := by rw [XY]; exact decide_eq_false (by omega)
  have e2 : Nat.ble ((n + m) * bytes) 140737488355328 = true := ble_of h1
  have e3 : Nat.ble (n + m) 140737488355328 = true := ble_of h2
  rw [Xg] at ht
  simp only [oApp, XI, Yo, hl, Nat.beq_refl, cond_true, e0, cond_false, ho, e1, Bool.not_false, Bool.and_self, e2, e3, ht, hc, fput'_eq]
theorem okq_some {d : D} {w : String} : ok? (some d) h w = .ok d h := rfl
theorem ble_dec {m n : Nat} : Nat.ble m n = decide (m ≤ n) := by rw [Bool.eq_iff_iff]; simp only [Nat.ble_eq, decide_eq_true_eq]
theorem wanted_u {w : Bool} : wanted Yr w = false := rfl
theorem wanted_b {b w : Bool} : wanted (.v (.bool b)) w = bif b then w else !w := rfl
theorem evs_nil : evs [] t = [] := rfl
theorem evs_cons {gs : List (Tr D → D)} : evs (g :: gs) t = g t :: evs gs t := rfl
theorem fargs_nil {j : Nat} {ss : List (D → Tr D → Tr D)} : fargs j ss [] t = t := by cases ss <;> rfl
theorem fargs_cons {j : Nat} {s : D → Tr D → Tr D} {ss : List (D → Tr D → Tr D)} {x : D} {xs : List D} : fargs j (s :: ss) (x :: xs) t = fargs (j + 1) ss xs (s x t) := rfl
theorem cells_int {kk : IntKind} {n : Int} : (D.int kk n).cells = [.int kk n] := rfl
theorem cells_str {l : List Nat} : (D.str l).cells = [.str l] := rfl
theorem cells_agg {cs : List D} : (D.agg cs).cells = cs := rfl
theorem cells_sl {id n : Nat} {cs : List D} : (D.sl id n cs).cells = [.sl id n cs] := rfl
theorem cells_row {a b c d : Nat} : (D.row a b c d).cells = [.row a b c d] := rfl
theorem cells_map {l : Nat} : (D.map l).cells = [.map l] := rfl
theorem cells_ptr {l o : Nat} : (D.ptr l o).cells = [.ptr l o] := rfl
theorem cells_bool {b : Bool} : (D.v (.bool b)).cells = [.v (.bool b)] := rfl
theorem cells_nil : (D.v (.slice none 0 0)).cells = [.v (.slice none 0 0)] := rfl
theorem one_nil : X5 [] = true := rfl
theorem one_cons {d : D} {r : List D} : X5 (d :: r) = (d.one && X5 r) := rfl
theorem one_int {kk : IntKind} {n : Int} : (D.int kk n).one = true := rfl
theorem one_str {l : List Nat} : (D.str l).one = true := rfl
theorem one_sl {id n : Nat} {cs : List D} : (D.sl id n cs).one = true := rfl
theorem one_row {a b c d : Nat} : (D.row a b c d).one = true := rfl
theorem one_map {l : Nat} : (D.map l).one = true := rfl
theorem one_ptr {l o : Nat} : (D.ptr l o).one = true := rfl
theorem one_bool {b : Bool} : (D.v (.bool b)).one = true := rfl
theorem one_vnil : (D.v (.slice none 0 0)).one = true := rfl
def oOne (o : Option (List D)) (h : H) : O D :=
  match o with
  | some cs => .ok (.agg cs) h
  | none => .fail "results"
theorem oOne_some {cs : List D} : oOne (some cs) h = .ok (.agg cs) h := rfl
theorem cfin_one {n s : Nat} {c : CC} : YR ⟨[.cN n s], c⟩ (act t) h = oOne (Za h (Gt n t) s) h := by
  simp only [YR, X2, Gt, geq]
  cases Za h ((act t).eval (.t n)) s <;> rfl
def oTwo (o : Option (List D)) (d : D) (h : H) : O D :=
  match o with
  | some cs => .ok (.tup [.agg cs, d]) h
  | none => .fail "results"
theorem oTwo_some {cs : List D} {d : D} : oTwo (some cs) d h = .ok (.tup [.agg cs, d]) h := rfl
theorem cfin_two {n s m : Nat} {c : CC} : YR ⟨[.cN n s, .t m], c⟩ (act t) h = oTwo (Za h (Gt n t) s) (Gt m t) h := by
  simp only [YR, X2, Gt, geq]
  cases Za h ((act t).eval (.t n)) s <;> rfl
theorem wrap_ok {m : Nat} (hm : m ≤ 9223372036854775807) : wrapQ .i64 (.ofNat m) = .ofNat m := by
  have : Nat.ble m (kMax .i64) = true := ble_of hm
  simp only [wrapQ, this, cond_true]
theorem iAdd_n {m n : Nat} : iAdd (.ofNat m) (.ofNat n) = .ofNat (m + n) := rfl
theorem iEq_n {m n : Nat} : iEq (.ofNat m) (.ofNat n) = Nat.beq m n := rfl
theorem iLt_n {m n : Nat} : iLt (.ofNat m) (.ofNat n) = Nat.blt m n := rfl
theorem add_small {m n : Nat} (hm : m + n ≤ 9223372036854775807) : Y7 .i64 (.ofNat m) (.ofNat n) = .int .i64 (.ofNat (m + n)) := by
  simp only [Y7, iAdd_n, wrap_ok hm]
theorem mem_nil {j : Nat} : YF j [] = false := rfl
theorem readOk_nil {x : D} {cs : List D} : X9 inc x cs [] = true := rfl
theorem readOk_rd {x y : D} {cs ds : List D} {j : Nat} : X9 inc x cs (.rd j y ds :: recs) = X9 inc x cs recs := rfl
theorem loudOk_nil : YL inc h [] = true := rfl
theorem XP {j : Nat} {h0 : H} : YL inc h (.loud j h0 :: recs) = YL inc h recs := rfl
theorem Xt : YL [] h recs = true := by
  induction recs with
  | nil => rfl
  | cons r l ih => cases r <;> simp only [YL, mem_nil, Bool.not_false, Bool.true_or, Bool.true_and, ih]
end
end Go.Abs
namespace Go.Abs
theorem WP.mono {E : Env} {T : Nat → FFn} {c : FC} {t : Tr D} {h : H} {M Q : Aft} (hc : WP E T c t h M) (hq : ∀ e t' h', M e t' h' → Q e t' h') : WP E T c t h Q := by
  obtain ⟨e, t1, h1, hr, hm⟩ := hc
  exact ⟨e, t1, h1, hr, hq _ _ _ hm⟩
def Gr (h h' : H) : Prop := h.next ≤ h'.next ∧ ∀ l, l < h.next → Zg h'.mem l = Zg h.mem l
theorem Gr.refl (h : H) : Gr h h := ⟨Nat.le_refl _, fun _ _ => rfl⟩
theorem Gr.trans {a b c : H} (h : Gr a b) (k : Gr b c) : Gr a c := ⟨Nat.le_trans h.1 k.1, fun l hl => (k.2 l (Nat.lt_of_lt_of_le hl h.1)).trans (h.2 l hl)⟩
theorem Gr.new {a b : H} (h : Gr a b) (o : AObj) : Gr a (W8 b o) := ⟨Nat.le_succ_of_le h.1, fun l hl => (YA (Nat.ne_of_lt (Nat.lt_of_lt_of_le hl h.1))).trans (h.2 l hl)⟩
theorem Gr.put {a b : H} (h : Gr a b) {k : Nat} (hk : a.next ≤ k) (o : AObj) : Gr a (W7 b k o) := ⟨h.1, fun l hl => (Yi (Nat.ne_of_lt (Nat.lt_of_lt_of_le hl hk))).trans (h.2 l hl)⟩
theorem set_at {gs : List D} {i : Nat} {d : D} (hi : i < gs.length) : gs.take i ++ [d] ++ gs.drop (i + 1) = gs.set i d := by
  rw [List.set_eq_take_append_cons_drop, if_pos hi, List.append_assoc]; rfl
def oSame (o : Option (List D)) (cs : List D) : Bool :=
  match o with
  | some ds => YQ cs ds
  | none => false
theorem oSame_some {cs ds : List D} : oSame (some ds) cs = YQ cs ds := rfl
theorem Xv {inc : List Nat} {x : D} {cs : List D} {j : Nat} {h0 : H} {recs : List Rec} : X9 inc x cs (.loud j h0 :: recs) = ((!YF j inc || oSame (Za h0 x cs.length) cs) && X9 inc x cs recs) := rfl
theorem loudOk_rdS {inc : List Nat} {h : H} {x : D} {cs : List D} {j : Nat} {recs : List Rec} : YL inc h (.rd j x cs :: recs) = ((!YF j inc || oSame (Za h x cs.length) cs) && YL inc h recs) := rfl
def oTip (o : Option AObj) (e size bytes k n m : Nat) (cs ys : List D) (h : H) : O D :=
  match o with
  | some (.tip k' u) => bif Nat.beq k' n && Nat.beq u e && Nat.beq cs.length (n * size) && Nat.ble ((n + m) * bytes) 140737488355328 && Nat.ble (n + m) 140737488355328 then .ok (.sl k (n + m) (cs ++ ys)) (W7 h k (.tip (n + m) e)) else .fail "append: not the tip"
  | _ => .fail "append: no tip"
theorem oApp_unf {e size bytes k n id m : Nat} {cs ys : List D} {h : H} : oApp e size bytes (.sl k n cs) (.sl id m ys) h = bif Nat.beq ys.length (m * size) then (bif Nat.beq m 0 then .ok (.sl k n cs) h else bif X5 ys && Nat.beq ys.length (m * size) && !Nat.beq size 0 then oTip (Zg h.mem k) e size bytes k n m cs ys h else .fail "append: cells") else .fail "append: what?" := by
  cases hb : Nat.beq ys.length (m * size)
  · simp only [oApp, XI, Yo, hb, cond_false]
  · simp only [oApp, XI, Yo, oTip, Xg, fput'_eq, hb, cond_true]
    rfl
theorem oApp_unil {e size bytes id m : Nat} {ys : List D} {h : H} : oApp e size bytes (.v (.slice none 0 0)) (.sl id m ys) h = bif Nat.beq ys.length (m * size) then (bif Nat.beq m 0 then .ok (.v (.slice none 0 0)) h else bif X5 ys && Nat.beq ys.length (m * size) && !Nat.beq size 0 then (bif Nat.ble (m * bytes) 140737488355328 && Nat.ble m 140737488355328 then .ok (.sl h.next m ys) (W8 h (.tip m e)) else .fail "append: size") else .fail "append: cells") else .fail "append: what?" := by
  cases hb : Nat.beq ys.length (m * size)
  · simp only [oApp, XI, Yo, hb, cond_false]
  · simp only [oApp, XI, Yo, fnew_eq, hb, cond_true]
theorem oTip_ok {e size bytes k n m : Nat} {cs ys : List D} {h : H} (hc : cs.length = n * size) (h1 : (n + m) * bytes ≤ 140737488355328) (h2 : n + m ≤ 140737488355328) : oTip (some (.tip n e)) e size bytes k n m cs ys h = .ok (.sl k (n + m) (cs ++ ys)) (W7 h k (.tip (n + m) e)) := by
  simp only [oTip, Nat.beq_refl, hc, ble_of h1, ble_of h2, Bool.and_self, cond_true]
theorem mem_cons {i j : Nat} {r : List Nat} : YF i (j :: r) = (Nat.beq i j || YF i r) := rfl
theorem sames_one (c : Int) : YQ [.int .i64 c] [.int .i64 c] = true := by simp only [YQ, D.same, decide_true, Bool.and_self]
theorem loudT {h : H} {recs : List Rec} : (YL [] h recs = true) ↔ True := by rw [Xt]; exact ⟨fun _ => trivial, fun _ => rfl⟩
theorem readT {inc : List Nat} {x : D} {cs : List D} : (X9 inc x cs [] = true) ↔ True := ⟨fun _ => trivial, fun _ => rfl⟩
section
variable {E : Env} {T : Nat → FFn}
variable {t : Tr D} {h : H} {Q : Aft} {p : D → Tr D → Tr D} {k : FR} {g g1 g2 : Tr D → D} {kd : FD} {recs : List Rec}
def oB2s (d : D) (h : H) : O D := r_b2s (.d d) ⟨default, fun _ => none, fun _ => none, fun _ => none⟩ Yx (act .nil) h
def oS2b (d : D) (h : H) : O D :=
  match d with
  | .str l => .ok (.sl 0 l.length (Xz l)) h
  | _ => .fail "s2b"
theorem oB2s_nil : oB2s (.v (.slice none 0 0)) h = .ok (.str []) h := rfl
def oLens (d : D) (h : H) : O D :=
  match d with
  | .str l => .ok (.int .i64 (.ofNat l.length)) h
  | _ => .fail "len"
theorem oLens_str {l : List Nat} : oLens (.str l) h = .ok (.int .i64 (.ofNat l.length)) h := rfl
def oSlstr (lo hi : Option D) (x : D) (h : H) : O D :=
  match x with
  | .str s => match Xh s.length s.length lo hi with
    | some (l, k) => .ok (.str ((s.drop l).take (k - l))) h
    | none => .fail "slice: string"
  | _ => .fail "slice: string"
theorem fslstr_o (c : Call) (lo hi : Option (Tr D → D)) : Xy g lo hi E c t h = oSlstr (lo.map (· t)) (hi.map (· t)) (g t) h := by
  have e := fslstr_eq (.d (g t)) (lo.map fun f => .d (f t)) (hi.map fun f => .d (f t)) E c t h
  have e1 : Xy (fe (.d (g t))) (feo (lo.map fun f => .d (f t))) (feo (hi.map fun f => .d (f t))) E c t h = Xy g lo hi E c t h := by
    cases lo <;> cases hi <;> rfl
  rw [← e1, e]
  cases lo <;> cases hi <;> rfl
theorem oSlstr_hi {s : List Nat} {n : Nat} {kk : IntKind} (hn : n ≤ s.length) : oSlstr none (some (.int kk (.ofNat n))) (.str s) h = .ok (.str (s.take n)) h := by
  simp only [oSlstr, Xh, hiD, loD, ble_of hn, cond_true, List.drop_zero, Nat.sub_zero]
theorem cat_str {op : TypeId} {ox oy : Operand} {a b : List Nat} (hl : a.length + b.length ≤ 140737488355328) : binD E .add op ox oy (.str a) (.str b) = some (.str (a ++ b)) := by
  simp only [binD, quickBin, ble_of hl, cond_true]
end
end Go.Abs
