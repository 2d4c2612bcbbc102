/- The quick code, run by rules: for what is not closed. -/
import Derived.Test.YtbknmljjoahajaaGreatDoorAbsFast
set_option linter.unusedVariables false
namespace Go.Abs
section
variable {E : Env} {T : Nat → FFn}

/-- A call comes to this, with fuel enough. -/
def Ev (E : Env) (T : Nat → FFn) (f : Nat) (args : List D) (h : H) (o : O D) : Prop := ∃ N, ∀ n, N ≤ n → fcall E T n f args h = o
def Runs (E : Env) (T : Nat → FFn) (c : FC) (t : Tr D) (h : H) (x : XT) : Prop := ∃ N, ∀ n m, N ≤ n → N ≤ m → c E (fcall E T n) m t h = x
def RunR (E : Env) (T : Nat → FFn) (r : FR) (t : Tr D) (h : H) (x : XT) : Prop := ∃ N, ∀ n, N ≤ n → r E (fcall E T n) t h = x
def RunD (E : Env) (T : Nat → FFn) (r : FD) (recs : List Rec) (t : Tr D) (h : H) (x : XT) : Prop := ∃ N, ∀ n, N ≤ n → r E (fcall E T n) recs t h = x

theorem runs_skip {t : Tr D} {h : H} : Runs E T fskip t h (.out .normal t h) := ⟨1, fun n m hn hm => by cases m with
  | zero => omega
  | succ m => rfl⟩
theorem runs_exit {id : Nat} {t : Tr D} {h : H} : Runs E T (fexit id) t h (.out (.exit id) t h) := ⟨1, fun n m hn hm => by cases m with
  | zero => omega
  | succ m => rfl⟩
theorem runs_ret {t : Tr D} {h : H} : Runs E T fret t h (.out .ret t h) := ⟨1, fun n m hn hm => by cases m with
  | zero => omega
  | succ m => rfl⟩
theorem runs_reg {r : FR} {t : Tr D} {h : H} {x : XT} (hr : RunR E T r t h x) : Runs E T (freg r) t h x := by
  obtain ⟨N, hN⟩ := hr
  refine ⟨N + 1, fun n m hn hm => ?_⟩
  cases m with
  | zero => omega
  | succ m => exact hN n (by omega)
theorem runs_dreg {r : FD} {t : Tr D} {h : H} {x : XT} (hr : RunD E T r [] t h x) : Runs E T (fdreg r) t h x := by
  obtain ⟨N, hN⟩ := hr
  refine ⟨N + 1, fun n m hn hm => ?_⟩
  cases m with
  | zero => omega
  | succ m => exact hN n (by omega)
theorem runs_seq {a b : FC} {t t1 : Tr D} {h h1 : H} {x : XT} (ha : Runs E T a t h (.out .normal t1 h1)) (hb : Runs E T b t1 h1 x) : Runs E T (fseq a b) t h x := by
  obtain ⟨N, hN⟩ := ha
  obtain ⟨M, hM⟩ := hb
  refine ⟨N + M + 1, fun n m hn hm => ?_⟩
  cases m with
  | zero => omega
  | succ m =>
    show XT.casesOn (motive := fun _ => XT) (a E (fcall E T n) m t h) _ _ _ = x
    rw [hN n m (by omega) (by omega)]
    exact hM n m (by omega) (by omega)
/-- How code may be left. -/
def leaves : AExit → Prop
  | .normal => False
  | _ => True
theorem runs_seq_out {a b : FC} {t t1 : Tr D} {h h1 : H} {e : AExit} (ha : Runs E T a t h (.out e t1 h1)) (he : leaves e) : Runs E T (fseq a b) t h (.out e t1 h1) := by
  obtain ⟨N, hN⟩ := ha
  refine ⟨N + 1, fun n m hn hm => ?_⟩
  cases m with
  | zero => omega
  | succ m =>
    show XT.casesOn (motive := fun _ => XT) (a E (fcall E T n) m t h) _ _ _ = _
    rw [hN n m (by omega) (by omega)]
    cases e with
    | normal => exact he.elim
    | exit id => rfl
    | ret => rfl
theorem runs_cond {g : Tr D → D} {a b : FC} {t : Tr D} {h : H} {x : XT} (v : Bool) (hg : g t = .v (.bool v)) (hx : Runs E T (bif v then a else b) t h x) : Runs E T (fcond g a b) t h x := by
  obtain ⟨N, hN⟩ := hx
  refine ⟨N + 1, fun n m hn hm => ?_⟩
  cases m with
  | zero => omega
  | succ m =>
    have := hN n m (by omega) (by omega)
    simp only [fcond, hg]
    cases v <;> exact this
theorem runs_yes {g : Tr D → D} {a b : FC} {t : Tr D} {h : H} {x : XT} (hg : g t = .v (.bool true)) (hx : Runs E T a t h x) : Runs E T (fcond g a b) t h x := runs_cond true hg hx
theorem runs_no {g : Tr D → D} {a b : FC} {t : Tr D} {h : H} {x : XT} (hg : g t = .v (.bool false)) (hx : Runs E T b t h x) : Runs E T (fcond g a b) t h x := runs_cond false hg hx
def blockOut (id : Nat) : AExit → AExit
  | .exit k => bif Nat.beq k id then .normal else .exit k
  | e => e
theorem runs_block {a : FC} {id : Nat} {t t1 : Tr D} {h h1 : H} {e : AExit} (ha : Runs E T a t h (.out e t1 h1)) : Runs E T (fblock id a) t h (.out (blockOut id e) t1 h1) := by
  obtain ⟨N, hN⟩ := ha
  refine ⟨N + 1, fun n m hn hm => ?_⟩
  cases m with
  | zero => omega
  | succ m =>
    show XT.casesOn (motive := fun _ => XT) (a E (fcall E T n) m t h) _ _ _ = _
    rw [hN n m (by omega) (by omega)]
    cases e with
    | normal => rfl
    | exit k => simp only [blockOut]; cases Nat.beq k id <;> rfl
    | ret => rfl
theorem runs_loop {a : FC} {t t1 : Tr D} {h h1 : H} {x : XT} (ha : Runs E T a t h (.out .normal t1 h1)) (hx : Runs E T (floop a) t1 h1 x) : Runs E T (floop a) t h x := by
  obtain ⟨N, hN⟩ := ha
  obtain ⟨M, hM⟩ := hx
  refine ⟨N + M + 1, fun n m hn hm => ?_⟩
  cases m with
  | zero => omega
  | succ m =>
    simp only [floop]
    rw [hN n m (by omega) (by omega)]
    exact hM n m (by omega) (by omega)
theorem runs_loop_out {a : FC} {t t1 : Tr D} {h h1 : H} {e : AExit} (ha : Runs E T a t h (.out e t1 h1)) (he : leaves e) : Runs E T (floop a) t h (.out e t1 h1) := by
  obtain ⟨N, hN⟩ := ha
  refine ⟨N + 1, fun n m hn hm => ?_⟩
  cases m with
  | zero => omega
  | succ m =>
    simp only [floop]
    rw [hN n m (by omega) (by omega)]
    cases e with
    | normal => exact he.elim
    | exit id => rfl
    | ret => rfl

theorem runr_pure {r : FR} {t : Tr D} {h : H} {x : XT} (hr : ∀ call, r E call t h = x) : RunR E T r t h x := ⟨0, fun n _ => hr _⟩
theorem rund_pure {r : FD} {recs : List Rec} {t : Tr D} {h : H} {x : XT} (hr : ∀ call, r E call recs t h = x) : RunD E T r recs t h x := ⟨0, fun n _ => hr _⟩
theorem runr_end {t : Tr D} {h : H} : RunR E T fend t h (.out .normal t h) := ⟨0, fun n _ => rfl⟩
theorem rund_end {recs : List Rec} {t : Tr D} {h : H} : RunD E T fdend recs t h (.out .normal t h) := ⟨0, fun n _ => rfl⟩
theorem runr_op {f : FOp} {p : D → Tr D → Tr D} {k : FR} {t : Tr D} {h h1 : H} {d : D} {x : XT} (hf : ∀ call, f E call t h = .ok d h1) (hk : RunR E T k (p d t) h1 x) : RunR E T (fo f p k) t h x := by
  obtain ⟨N, hN⟩ := hk
  refine ⟨N, fun n hn => ?_⟩
  show O.casesOn (motive := fun _ => XT) (f E (fcall E T n) t h) _ _ _ = x
  rw [hf]
  exact hN n hn
theorem runr_call {f : Nat} {gs : List (Tr D → D)} {p : D → Tr D → Tr D} {k : FR} {t : Tr D} {h h1 : H} {d : D} {x : XT} (hf : Ev E T f (evs gs t) h (.ok d h1)) (hk : RunR E T k (p d t) h1 x) : RunR E T (fo (fcalls f gs) p k) t h x := by
  obtain ⟨N, hN⟩ := hk
  obtain ⟨M, hM⟩ := hf
  refine ⟨N + M, fun n hn => ?_⟩
  show O.casesOn (motive := fun _ => XT) (fcall E T n f (evs gs t) h) _ _ _ = x
  rw [hM n (by omega)]
  exact hN n (by omega)
theorem runr_yes {g : Tr D → D} {w : Bool} {f : FOp} {p : D → Tr D → Tr D} {k : FR} {t : Tr D} {h : H} {x : XT} (hg : g t = .v (.bool w)) (hk : RunR E T (fo f p k) t h x) : RunR E T (fog g w f p k) t h x := by
  obtain ⟨N, hN⟩ := hk
  refine ⟨N, fun n hn => ?_⟩
  have hw : wanted (g t) w = true := by rw [hg]; cases w <;> rfl
  simp only [fog, hw, cond_true]
  exact hN n hn
theorem runr_no {g : Tr D → D} {w : Bool} {f : FOp} {p : D → Tr D → Tr D} {k : FR} {t : Tr D} {h : H} {x : XT} (hg : g t = .v (.bool !w)) (hk : RunR E T k (p undefD t) h x) : RunR E T (fog g w f p k) t h x := by
  obtain ⟨N, hN⟩ := hk
  refine ⟨N, fun n hn => ?_⟩
  have hw : wanted (g t) w = false := by rw [hg]; cases w <;> rfl
  simp only [fog, hw, cond_false]
  exact hN n hn
theorem rund_op {f : FOp} {p : D → Tr D → Tr D} {k : FD} {recs : List Rec} {t : Tr D} {h h1 : H} {d : D} {x : XT} (hf : ∀ call, f E call t h = .ok d h1) (hk : RunD E T k recs (p d t) h1 x) : RunD E T (fdo f p k) recs t h x := by
  obtain ⟨N, hN⟩ := hk
  refine ⟨N, fun n hn => ?_⟩
  show O.casesOn (motive := fun _ => XT) (f E (fcall E T n) t h) _ _ _ = x
  rw [hf]
  exact hN n hn
theorem rund_read {i n : Nat} {inc : List Nat} {g : Tr D → D} {f : FOp} {p : D → Tr D → Tr D} {k : FD} {recs : List Rec} {t : Tr D} {h h1 : H} {d : D} {cs : List D} {x : XT} (hf : ∀ call, f E call t h = .ok d h1) (hc : readCells h (g t) n = some cs) (ho : readOk inc (g t) cs recs = true)
    (hk : RunD E T k (.rd i (g t) cs :: recs) (p d t) h1 x) : RunD E T (fdr i inc n g f p k) recs t h x := by
  obtain ⟨N, hN⟩ := hk
  refine ⟨N, fun m hm => ?_⟩
  show O.casesOn (motive := fun _ => XT) (f E (fcall E T m) t h) _ _ _ = x
  rw [hf]
  simp only [hc, ho, cond_true]
  exact hN m hm
theorem rund_loud {i : Nat} {inc : List Nat} {f : FOp} {p : D → Tr D → Tr D} {k : FD} {recs : List Rec} {t : Tr D} {h h1 : H} {d : D} {x : XT} (hf : ∀ call, f E call t h = .ok d h1) (ho : loudOk inc h1 recs = true)
    (hk : RunD E T k (.loud i h :: recs) (p d t) h1 x) : RunD E T (fdl i inc f p k) recs t h x := by
  obtain ⟨N, hN⟩ := hk
  refine ⟨N, fun m hm => ?_⟩
  show O.casesOn (motive := fun _ => XT) (f E (fcall E T m) t h) _ _ _ = x
  rw [hf]
  simp only [ho, cond_true]
  exact hN m hm
theorem rund_call {i : Nat} {inc : List Nat} {f : Nat} {gs : List (Tr D → D)} {p : D → Tr D → Tr D} {k : FD} {recs : List Rec} {t : Tr D} {h h1 : H} {d : D} {x : XT} (hf : Ev E T f (evs gs t) h (.ok d h1)) (ho : loudOk inc h1 recs = true)
    (hk : RunD E T k (.loud i h :: recs) (p d t) h1 x) : RunD E T (fdl i inc (fcalls f gs) p k) recs t h x := by
  obtain ⟨N, hN⟩ := hk
  obtain ⟨M, hM⟩ := hf
  refine ⟨N + M, fun m hm => ?_⟩
  show O.casesOn (motive := fun _ => XT) (fcall E T m f (evs gs t) h) _ _ _ = x
  rw [hM m (by omega)]
  simp only [ho, cond_true]
  exact hN m (by omega)

def ends : AExit → Prop
  | .exit _ => False
  | _ => True
theorem ev_fn {f : Nat} {ss : List (D → Tr D → Tr D)} {res : Tr D → H → O D} {body : FC} {args : List D} {h h1 : H} {t1 : Tr D} {e : AExit} {o : O D} (hT : T f = ffn ss res body) (hb : Runs E T body (fargs 0 ss args .nil) h (.out e t1 h1)) (he : ends e) (ho : res t1 h1 = o) : Ev E T f args h o := by
  obtain ⟨N, hN⟩ := hb
  refine ⟨N + 1, fun n hn => ?_⟩
  cases n with
  | zero => omega
  | succ n =>
    show T f E n (fcall E T n) args h = o
    rw [hT]
    show XT.casesOn (motive := fun _ => O D) (body E (fcall E T n) n (fargs 0 ss args .nil) h) _ _ _ = o
    rw [hN n n (by omega) (by omega)]
    cases e with
    | normal => exact ho
    | exit id => exact he.elim
    | ret => exact ho
theorem ev_lib {f : Nat} {g : List D → H → O D} {args : List D} {h : H} {o : O D} (hT : T f = flib g) (ho : g args h = o) : Ev E T f args h o :=
  ⟨1, fun n hn => by
    cases n with
    | zero => omega
    | succ n => show T f E n (fcall E T n) args h = o; rw [hT]; exact ho⟩

/-! Temporaries and memory, for simp. -/
def Gt (i : Nat) (t : Tr D) : D := gF (i + 1) i t
def St (j : Nat) (v : D) (t : Tr D) : Tr D := pF (j + 1) j v t
theorem Gt_St (i j : Nat) (v : D) (t : Tr D) : Gt i (St j v t) = if i = j then v else Gt i t := by
  simp only [Gt, St, gF_eq _ _ _ (Nat.lt_succ_self i), pF_eq]
  show getD' ((t.set j (some v)).get i) = _
  rw [Tr.get_set]
  split <;> rfl
theorem Gt_St_ne {i j : Nat} (v : D) (t : Tr D) (h : Nat.beq i j = false) : Gt i (St j v t) = Gt i t := by
  rw [Gt_St, if_neg (fun e => by subst e; rw [Nat.beq_refl] at h; cases h)]
theorem Gt_St_eq (i : Nat) (v : D) (t : Tr D) : Gt i (St i v t) = v := by rw [Gt_St, if_pos rfl]
theorem p0_eq (v : D) (t : Tr D) : p0 v t = t := rfl
theorem kD_eq (d : D) (t : Tr D) : kD d t = d := rfl
theorem hget_new_eq {h : H} {o : AObj} {l : Nat} (e : l = h.next) : hget (fnew h o).mem l = some o := by
  subst e
  simp only [fnew, hget_eq, hset_eq, Tr.get_set, if_true]
theorem hget_new_le {h : H} {o : AObj} {l : Nat} (a : l < h.next + 1) (b : ¬ l < h.next) : hget (fnew h o).mem l = some o := hget_new_eq (by omega)
theorem hget_new_ne {h : H} {o : AObj} {l : Nat} (e : l ≠ h.next) : hget (fnew h o).mem l = hget h.mem l := by
  simp only [fnew, hget_eq, hset_eq, Tr.get_set, if_neg e]
theorem hget_put_eq {h : H} {o : AObj} {l k : Nat} (e : l = k) : hget (fput' h k o).mem l = some o := by
  subst e
  simp only [fput', hget_eq, hset_eq, Tr.get_set, if_true]
theorem hget_put_same {h : H} {o : AObj} {k : Nat} : hget (fput' h k o).mem k = some o := hget_put_eq rfl
theorem hget_put_ne {h : H} {o : AObj} {l k : Nat} (e : l ≠ k) : hget (fput' h k o).mem l = hget h.mem l := by
  simp only [fput', hget_eq, hset_eq, Tr.get_set, if_neg e]
theorem next_new (h : H) (o : AObj) : (fnew h o).next = h.next + 1 := rfl
theorem next_put (h : H) (l : Nat) (o : AObj) : (fput' h l o).next = h.next := rfl
end
end Go.Abs
/-! The quick code, run by rules: what holds behind it. -/
namespace Go.Abs
section
variable {E : Env} {T : Nat → FFn}

abbrev Aft := AExit → Tr D → H → Prop
def WP (E : Env) (T : Nat → FFn) (c : FC) (t : Tr D) (h : H) (Q : Aft) : Prop := ∃ e t' h', Runs E T c t h (.out e t' h') ∧ Q e t' h'
def WR (E : Env) (T : Nat → FFn) (r : FR) (t : Tr D) (h : H) (Q : Aft) : Prop := ∃ e t' h', RunR E T r t h (.out e t' h') ∧ Q e t' h'
def WD (E : Env) (T : Nat → FFn) (r : FD) (recs : List Rec) (t : Tr D) (h : H) (Q : Aft) : Prop := ∃ e t' h', RunD E T r recs t h (.out e t' h') ∧ Q e t' h'
def WC (E : Env) (T : Nat → FFn) (f : Nat) (args : List D) (h : H) (Q : D → H → Prop) : Prop := ∃ d h', Ev E T f args h (.ok d h') ∧ Q d h'
def nocall : Call := fun _ _ _ => .fail ""

/-! What comes next. -/
def Kseq (E : Env) (T : Nat → FFn) (b : FC) (Q : Aft) : Aft := fun e t h =>
  match e with
  | .normal => WP E T b t h Q
  | .exit i => Q (.exit i) t h
  | .ret => Q .ret t h
def Kblk (id : Nat) (Q : Aft) : Aft := fun e t h => Q (blockOut id e) t h
def Kfn (res : Tr D → H → O D) (Q : D → H → Prop) : Aft := fun e t h =>
  match e with
  | .exit _ => False
  | _ => match res t h with
    | .ok d h => Q d h
    | _ => False
def Kc (E : Env) (T : Nat → FFn) (p : D → Tr D → Tr D) (k : FR) (t : Tr D) (Q : Aft) : D → H → Prop := fun d h => WR E T k (p d t) h Q
def Kd (E : Env) (T : Nat → FFn) (i : Nat) (inc : List Nat) (h0 : H) (p : D → Tr D → Tr D) (k : FD) (recs : List Rec) (t : Tr D) (Q : Aft) : D → H → Prop := fun d h => loudOk inc h recs = true ∧ WD E T k (.loud i h0 :: recs) (p d t) h Q
def sO (E : Env) (T : Nat → FFn) (o : O D) (p : D → Tr D → Tr D) (k : FR) (t : Tr D) (Q : Aft) : Prop :=
  match o with
  | .ok d h => WR E T k (p d t) h Q
  | _ => False
def sD (E : Env) (T : Nat → FFn) (o : O D) (p : D → Tr D → Tr D) (k : FD) (recs : List Rec) (t : Tr D) (Q : Aft) : Prop :=
  match o with
  | .ok d h => WD E T k recs (p d t) h Q
  | _ => False
def sR (E : Env) (T : Nat → FFn) (o : O D) (c : Option (List D)) (i : Nat) (inc : List Nat) (a : D) (p : D → Tr D → Tr D) (k : FD) (recs : List Rec) (t : Tr D) (Q : Aft) : Prop :=
  match o, c with
  | .ok d h, some cs => readOk inc a cs recs = true ∧ WD E T k (.rd i a cs :: recs) (p d t) h Q
  | _, _ => False
def sL (E : Env) (T : Nat → FFn) (o : O D) (i : Nat) (inc : List Nat) (h0 : H) (p : D → Tr D → Tr D) (k : FD) (recs : List Rec) (t : Tr D) (Q : Aft) : Prop :=
  match o with
  | .ok d h => loudOk inc h recs = true ∧ WD E T k (.loud i h0 :: recs) (p d t) h Q
  | _ => False
def sB (E : Env) (T : Nat → FFn) (d : D) (a b : FC) (t : Tr D) (h : H) (Q : Aft) : Prop :=
  match d with
  | .v (.bool v) => bif v then WP E T a t h Q else WP E T b t h Q
  | _ => False
def sC (o : O D) (Q : D → H → Prop) : Prop :=
  match o with
  | .ok d h => Q d h
  | _ => False

theorem sO_ok {d : D} {h : H} {p : D → Tr D → Tr D} {k : FR} {t : Tr D} {Q : Aft} : sO E T (.ok d h) p k t Q ↔ WR E T k (p d t) h Q := Iff.rfl
theorem sD_ok {d : D} {h : H} {p : D → Tr D → Tr D} {k : FD} {recs : List Rec} {t : Tr D} {Q : Aft} : sD E T (.ok d h) p k recs t Q ↔ WD E T k recs (p d t) h Q := Iff.rfl
theorem sR_ok {d : D} {h : H} {cs : List D} {i : Nat} {inc : List Nat} {a : D} {p : D → Tr D → Tr D} {k : FD} {recs : List Rec} {t : Tr D} {Q : Aft} :
    sR E T (.ok d h) (some cs) i inc a p k recs t Q ↔ readOk inc a cs recs = true ∧ WD E T k (.rd i a cs :: recs) (p d t) h Q := Iff.rfl
theorem sL_ok {d : D} {h h0 : H} {i : Nat} {inc : List Nat} {p : D → Tr D → Tr D} {k : FD} {recs : List Rec} {t : Tr D} {Q : Aft} :
    sL E T (.ok d h) i inc h0 p k recs t Q ↔ loudOk inc h recs = true ∧ WD E T k (.loud i h0 :: recs) (p d t) h Q := Iff.rfl
theorem sB_t {a b : FC} {t : Tr D} {h : H} {Q : Aft} : sB E T (.v (.bool true)) a b t h Q ↔ WP E T a t h Q := Iff.rfl
theorem sB_f {a b : FC} {t : Tr D} {h : H} {Q : Aft} : sB E T (.v (.bool false)) a b t h Q ↔ WP E T b t h Q := Iff.rfl
theorem sB_bool {v : Bool} {a b : FC} {t : Tr D} {h : H} {Q : Aft} : sB E T (.v (.bool v)) a b t h Q ↔ (bif v then WP E T a t h Q else WP E T b t h Q) := Iff.rfl
theorem kseq_n {b : FC} {Q : Aft} {t : Tr D} {h : H} : Kseq E T b Q .normal t h ↔ WP E T b t h Q := Iff.rfl
theorem kseq_r {b : FC} {Q : Aft} {t : Tr D} {h : H} : Kseq E T b Q .ret t h ↔ Q .ret t h := Iff.rfl
theorem kseq_e {b : FC} {Q : Aft} {i : Nat} {t : Tr D} {h : H} : Kseq E T b Q (.exit i) t h ↔ Q (.exit i) t h := Iff.rfl
theorem kblk_n {id : Nat} {Q : Aft} {t : Tr D} {h : H} : Kblk id Q .normal t h ↔ Q .normal t h := Iff.rfl
theorem kblk_r {id : Nat} {Q : Aft} {t : Tr D} {h : H} : Kblk id Q .ret t h ↔ Q .ret t h := Iff.rfl
theorem kblk_e {id i : Nat} {Q : Aft} {t : Tr D} {h : H} : Kblk id Q (.exit i) t h ↔ Q (bif Nat.beq i id then .normal else .exit i) t h := Iff.rfl
theorem kfn_n {res : Tr D → H → O D} {Q : D → H → Prop} {t : Tr D} {h : H} : Kfn res Q .normal t h ↔ sC (res t h) Q := Iff.rfl
theorem kfn_r {res : Tr D → H → O D} {Q : D → H → Prop} {t : Tr D} {h : H} : Kfn res Q .ret t h ↔ sC (res t h) Q := Iff.rfl
theorem sC_ok {d : D} {h : H} {Q : D → H → Prop} : sC (.ok d h) Q ↔ Q d h := Iff.rfl
theorem kc_eq {p : D → Tr D → Tr D} {k : FR} {t : Tr D} {Q : Aft} {d : D} {h : H} : Kc E T p k t Q d h ↔ WR E T k (p d t) h Q := Iff.rfl
theorem kd_eq {i : Nat} {inc : List Nat} {h0 : H} {p : D → Tr D → Tr D} {k : FD} {recs : List Rec} {t : Tr D} {Q : Aft} {d : D} {h : H} :
    Kd E T i inc h0 p k recs t Q d h ↔ loudOk inc h recs = true ∧ WD E T k (.loud i h0 :: recs) (p d t) h Q := Iff.rfl

/-! Operations. -/
theorem wr_fo {f : FOp} {p : D → Tr D → Tr D} {k : FR} {t : Tr D} {h : H} {Q : Aft} (hf : ∀ c, f E c t h = f E nocall t h) : WR E T (fo f p k) t h Q ↔ sO E T (f E nocall t h) p k t Q := by
  constructor
  · rintro ⟨e, t', h', ⟨N, hN⟩, hq⟩
    cases ho : f E nocall t h with
    | ok d h1 =>
      refine ⟨e, t', h', ⟨N, fun n hn => ?_⟩, hq⟩
      have := hN n hn
      simp only [fo, hf, ho] at this
      exact this
    | panic d h1 =>
      have := hN N (Nat.le_refl _)
      simp only [fo, hf, ho] at this
      cases this
    | fail w =>
      have := hN N (Nat.le_refl _)
      simp only [fo, hf, ho] at this
      cases this
  · intro hs
    cases ho : f E nocall t h with
    | ok d h1 =>
      rw [ho] at hs
      obtain ⟨e, t', h', hr, hq⟩ := hs
      exact ⟨e, t', h', runr_op (fun c => (hf c).trans ho) hr, hq⟩
    | panic d h1 => rw [ho] at hs; exact hs.elim
    | fail w => rw [ho] at hs; exact hs.elim
theorem wr_end {t : Tr D} {h : H} {Q : Aft} : WR E T fend t h Q ↔ Q .normal t h := by
  constructor
  · rintro ⟨e, t', h', ⟨N, hN⟩, hq⟩
    cases hN N (Nat.le_refl _)
    exact hq
  · intro hq; exact ⟨_, _, _, runr_end, hq⟩
def sG (E : Env) (T : Nat → FFn) (b : Bool) (f : FOp) (p : D → Tr D → Tr D) (k : FR) (t : Tr D) (h : H) (Q : Aft) : Prop := bif b then WR E T (fo f p k) t h Q else WR E T k (p undefD t) h Q
theorem sG_t {f : FOp} {p : D → Tr D → Tr D} {k : FR} {t : Tr D} {h : H} {Q : Aft} : sG E T true f p k t h Q ↔ WR E T (fo f p k) t h Q := Iff.rfl
theorem sG_f {f : FOp} {p : D → Tr D → Tr D} {k : FR} {t : Tr D} {h : H} {Q : Aft} : sG E T false f p k t h Q ↔ WR E T k (p undefD t) h Q := Iff.rfl
theorem wr_fog {g : Tr D → D} {w : Bool} {f : FOp} {p : D → Tr D → Tr D} {k : FR} {t : Tr D} {h : H} {Q : Aft} : WR E T (fog g w f p k) t h Q ↔ sG E T (wanted (g t) w) f p k t h Q := by
  unfold sG WR RunR
  cases hw : wanted (g t) w <;> simp only [fog, hw, cond_true, cond_false]
theorem wd_fo {f : FOp} {p : D → Tr D → Tr D} {k : FD} {recs : List Rec} {t : Tr D} {h : H} {Q : Aft} (hf : ∀ c, f E c t h = f E nocall t h) : WD E T (fdo f p k) recs t h Q ↔ sD E T (f E nocall t h) p k recs t Q := by
  constructor
  · rintro ⟨e, t', h', ⟨N, hN⟩, hq⟩
    cases ho : f E nocall t h with
    | ok d h1 =>
      refine ⟨e, t', h', ⟨N, fun n hn => ?_⟩, hq⟩
      have := hN n hn
      simp only [fdo, hf, ho] at this
      exact this
    | panic d h1 =>
      have := hN N (Nat.le_refl _)
      simp only [fdo, hf, ho] at this
      cases this
    | fail w =>
      have := hN N (Nat.le_refl _)
      simp only [fdo, hf, ho] at this
      cases this
  · intro hs
    cases ho : f E nocall t h with
    | ok d h1 =>
      rw [ho] at hs
      obtain ⟨e, t', h', hr, hq⟩ := hs
      exact ⟨e, t', h', rund_op (fun c => (hf c).trans ho) hr, hq⟩
    | panic d h1 => rw [ho] at hs; exact hs.elim
    | fail w => rw [ho] at hs; exact hs.elim
theorem wd_end {recs : List Rec} {t : Tr D} {h : H} {Q : Aft} : WD E T fdend recs t h Q ↔ Q .normal t h := by
  constructor
  · rintro ⟨e, t', h', ⟨N, hN⟩, hq⟩
    cases hN N (Nat.le_refl _)
    exact hq
  · intro hq; exact ⟨_, _, _, rund_end, hq⟩
theorem wd_rd {i n : Nat} {inc : List Nat} {g : Tr D → D} {f : FOp} {p : D → Tr D → Tr D} {k : FD} {recs : List Rec} {t : Tr D} {h : H} {Q : Aft} (hf : ∀ c, f E c t h = f E nocall t h) :
    WD E T (fdr i inc n g f p k) recs t h Q ↔ sR E T (f E nocall t h) (readCells h (g t) n) i inc (g t) p k recs t Q := by
  constructor
  · rintro ⟨e, t', h', ⟨N, hN⟩, hq⟩
    have h0 := hN N (Nat.le_refl _)
    cases ho : f E nocall t h with
    | ok d h1 =>
      cases hc : readCells h (g t) n with
      | none => simp only [fdr, hf, ho, hc] at h0; cases h0
      | some cs =>
        cases hb : readOk inc (g t) cs recs with
        | false => simp only [fdr, hf, ho, hc, hb, cond_false] at h0; cases h0
        | true =>
          refine ⟨hb, e, t', h', ⟨N, fun n hn => ?_⟩, hq⟩
          have := hN n hn
          simp only [fdr, hf, ho, hc, hb, cond_true] at this
          exact this
    | panic d h1 => simp only [fdr, hf, ho] at h0; cases h0
    | fail w => simp only [fdr, hf, ho] at h0; cases h0
  · intro hs
    cases ho : f E nocall t h with
    | ok d h1 =>
      rw [ho] at hs
      cases hc : readCells h (g t) n with
      | none => rw [hc] at hs; exact hs.elim
      | some cs =>
        rw [hc] at hs
        obtain ⟨hb, e, t', h', hr, hq⟩ := hs
        exact ⟨e, t', h', rund_read (fun c => (hf c).trans ho) hc hb hr, hq⟩
    | panic d h1 => rw [ho] at hs; exact hs.elim
    | fail w => rw [ho] at hs; exact hs.elim
theorem wd_ld {i : Nat} {inc : List Nat} {f : FOp} {p : D → Tr D → Tr D} {k : FD} {recs : List Rec} {t : Tr D} {h : H} {Q : Aft} (hf : ∀ c, f E c t h = f E nocall t h) :
    WD E T (fdl i inc f p k) recs t h Q ↔ sL E T (f E nocall t h) i inc h p k recs t Q := by
  constructor
  · rintro ⟨e, t', h', ⟨N, hN⟩, hq⟩
    have h0 := hN N (Nat.le_refl _)
    cases ho : f E nocall t h with
    | ok d h1 =>
      cases hb : loudOk inc h1 recs with
      | false => simp only [fdl, hf, ho, hb, cond_false] at h0; cases h0
      | true =>
        refine ⟨hb, e, t', h', ⟨N, fun n hn => ?_⟩, hq⟩
        have := hN n hn
        simp only [fdl, hf, ho, hb, cond_true] at this
        exact this
    | panic d h1 => simp only [fdl, hf, ho] at h0; cases h0
    | fail w => simp only [fdl, hf, ho] at h0; cases h0
  · intro hs
    cases ho : f E nocall t h with
    | ok d h1 =>
      rw [ho] at hs
      obtain ⟨hb, e, t', h', hr, hq⟩ := hs
      exact ⟨e, t', h', rund_loud (fun c => (hf c).trans ho) hb hr, hq⟩
    | panic d h1 => rw [ho] at hs; exact hs.elim
    | fail w => rw [ho] at hs; exact hs.elim
theorem wr_call {f : Nat} {gs : List (Tr D → D)} {p : D → Tr D → Tr D} {k : FR} {t : Tr D} {h : H} {Q : Aft} (hc : WC E T f (evs gs t) h (Kc E T p k t Q)) : WR E T (fo (fcalls f gs) p k) t h Q := by
  obtain ⟨d, h1, he, e, t', h', hr, hq⟩ := hc
  exact ⟨e, t', h', runr_call he hr, hq⟩
theorem wd_call {i : Nat} {inc : List Nat} {f : Nat} {gs : List (Tr D → D)} {p : D → Tr D → Tr D} {k : FD} {recs : List Rec} {t : Tr D} {h : H} {Q : Aft} (hc : WC E T f (evs gs t) h (Kd E T i inc h p k recs t Q)) : WD E T (fdl i inc (fcalls f gs) p k) recs t h Q := by
  obtain ⟨d, h1, he, hb, e, t', h', hr, hq⟩ := hc
  exact ⟨e, t', h', rund_call he hb hr, hq⟩
theorem WC.mono {f : Nat} {args : List D} {h : H} {Q Q' : D → H → Prop} (hc : WC E T f args h Q) (hq : ∀ d h', Q d h' → Q' d h') : WC E T f args h Q' := by
  obtain ⟨d, h1, he, h2⟩ := hc
  exact ⟨d, h1, he, hq _ _ h2⟩

/-! Code. -/
theorem wp_skip {t : Tr D} {h : H} {Q : Aft} (hq : Q .normal t h) : WP E T fskip t h Q := ⟨_, _, _, runs_skip, hq⟩
theorem wp_exit {i : Nat} {t : Tr D} {h : H} {Q : Aft} (hq : Q (.exit i) t h) : WP E T (fexit i) t h Q := ⟨_, _, _, runs_exit, hq⟩
theorem wp_ret {t : Tr D} {h : H} {Q : Aft} (hq : Q .ret t h) : WP E T fret t h Q := ⟨_, _, _, runs_ret, hq⟩
theorem wp_reg {r : FR} {t : Tr D} {h : H} {Q : Aft} (hq : WR E T r t h Q) : WP E T (freg r) t h Q := by
  obtain ⟨e, t', h', hr, hq⟩ := hq
  exact ⟨_, _, _, runs_reg hr, hq⟩
theorem wp_dreg {r : FD} {t : Tr D} {h : H} {Q : Aft} (hq : WD E T r [] t h Q) : WP E T (fdreg r) t h Q := by
  obtain ⟨e, t', h', hr, hq⟩ := hq
  exact ⟨_, _, _, runs_dreg hr, hq⟩
theorem wp_seq {a b : FC} {t : Tr D} {h : H} {Q : Aft} (hq : WP E T a t h (Kseq E T b Q)) : WP E T (fseq a b) t h Q := by
  obtain ⟨e, t1, h1, hr, hq⟩ := hq
  cases e with
  | normal =>
    obtain ⟨e, t', h', hr', hq⟩ := hq
    exact ⟨_, _, _, runs_seq hr hr', hq⟩
  | exit i => exact ⟨_, _, _, runs_seq_out hr trivial, hq⟩
  | ret => exact ⟨_, _, _, runs_seq_out hr trivial, hq⟩
theorem wp_block {a : FC} {id : Nat} {t : Tr D} {h : H} {Q : Aft} (hq : WP E T a t h (Kblk id Q)) : WP E T (fblock id a) t h Q := by
  obtain ⟨e, t1, h1, hr, hq⟩ := hq
  exact ⟨_, _, _, runs_block hr, hq⟩
theorem wp_cond {g : Tr D → D} {a b : FC} {t : Tr D} {h : H} {Q : Aft} (hq : sB E T (g t) a b t h Q) : WP E T (fcond g a b) t h Q := by
  unfold sB at hq
  split at hq
  · rename_i v hv
    cases v with
    | true =>
      obtain ⟨e, t', h', hr, hq⟩ := hq
      exact ⟨_, _, _, runs_cond true hv hr, hq⟩
    | false =>
      obtain ⟨e, t', h', hr, hq⟩ := hq
      exact ⟨_, _, _, runs_cond false hv hr, hq⟩
  · exact hq.elim
def Kloop (E : Env) (T : Nat → FFn) (I : Nat → Tr D → H → Prop) (n : Nat) (Q : Aft) : Aft := fun e t h =>
  match e with
  | .normal => ∃ m, m < n ∧ I m t h
  | .exit i => Q (.exit i) t h
  | .ret => Q .ret t h
theorem kloop_n {I : Nat → Tr D → H → Prop} {n : Nat} {Q : Aft} {t : Tr D} {h : H} : Kloop E T I n Q .normal t h ↔ ∃ m, m < n ∧ I m t h := Iff.rfl
theorem kloop_e {I : Nat → Tr D → H → Prop} {n i : Nat} {Q : Aft} {t : Tr D} {h : H} : Kloop E T I n Q (.exit i) t h ↔ Q (.exit i) t h := Iff.rfl
theorem kloop_r {I : Nat → Tr D → H → Prop} {n : Nat} {Q : Aft} {t : Tr D} {h : H} : Kloop E T I n Q .ret t h ↔ Q .ret t h := Iff.rfl
theorem wp_loop {a : FC} {Q : Aft} (I : Nat → Tr D → H → Prop) {n : Nat} {t : Tr D} {h : H} (hi : I n t h) (hb : ∀ n t h, I n t h → WP E T a t h (Kloop E T I n Q)) : WP E T (floop a) t h Q := by
  induction n using Nat.strongRecOn generalizing t h with
  | ind n ih =>
    obtain ⟨e, t1, h1, hr, hq⟩ := hb n t h hi
    cases e with
    | normal =>
      obtain ⟨m, hm, hq⟩ := hq
      obtain ⟨e, t', h', hr', hq⟩ := ih m hm hq
      exact ⟨_, _, _, runs_loop hr hr', hq⟩
    | exit i => exact ⟨_, _, _, runs_loop_out hr trivial, hq⟩
    | ret => exact ⟨_, _, _, runs_loop_out hr trivial, hq⟩
theorem wc_fn {f : Nat} {ss : List (D → Tr D → Tr D)} {res : Tr D → H → O D} {body : FC} {args : List D} {h : H} {Q : D → H → Prop} (hT : T f = ffn ss res body) (hq : WP E T body (fargs 0 ss args .nil) h (Kfn res Q)) : WC E T f args h Q := by
  obtain ⟨e, t, h1, hr, hq⟩ := hq
  unfold Kfn at hq
  cases e with
  | exit i => exact hq.elim
  | normal =>
    simp only [] at hq
    cases ho : res t h1 with
    | ok d h2 => rw [ho] at hq; exact ⟨d, h2, ev_fn hT hr trivial ho, hq⟩
    | panic d h2 => rw [ho] at hq; exact hq.elim
    | fail w => rw [ho] at hq; exact hq.elim
  | ret =>
    simp only [] at hq
    cases ho : res t h1 with
    | ok d h2 => rw [ho] at hq; exact ⟨d, h2, ev_fn hT hr trivial ho, hq⟩
    | panic d h2 => rw [ho] at hq; exact hq.elim
    | fail w => rw [ho] at hq; exact hq.elim
theorem wc_lib {f : Nat} {g : List D → H → O D} {args : List D} {h : H} {Q : D → H → Prop} (hT : T f = flib g) (hq : sC (g args h) Q) : WC E T f args h Q := by
  cases ho : g args h with
  | ok d h2 => rw [ho] at hq; exact ⟨d, h2, ev_lib hT ho, hq⟩
  | panic d h2 => rw [ho] at hq; exact hq.elim
  | fail w => rw [ho] at hq; exact hq.elim
end
end Go.Abs
/-! The quick code, run by rules: each operation. -/
namespace Go.Abs
theorem ble_of {m n : Nat} (h : m ≤ n) : Nat.ble m n = true := by rw [Nat.ble_eq]; exact h
section
variable {E : Env} {T : Nat → FFn} {p : D → Tr D → Tr D} {k : FR} {kd : FD} {recs : List Rec} {t : Tr D} {h : H} {Q : Aft} {g g1 g2 g3 : Tr D → D} {i : Nat} {inc : List Nat}

def oFa (n : Nat) (d : D) (h : H) : O D :=
  match d with
  | .ptr l o => .ok (.ptr l (o + n)) h
  | .ep cs => .ok (.ep (cs.drop n)) h
  | _ => .fail "fieldAddr"
theorem oFa_ptr {n l o : Nat} : oFa n (.ptr l o) h = .ok (.ptr l (o + n)) h := rfl
theorem oFa_ep {n : Nat} {cs : List D} : oFa n (.ep cs) h = .ok (.ep (cs.drop n)) h := rfl
def oNil (d : D) (h : H) : O D :=
  match d with
  | .ptr l off => .ok (.ptr l off) h
  | .ep cs => .ok (.ep cs) h
  | .func (.func f) x y => .ok (.func (.func f) x y) h
  | .v (.func (.func f) x y) => .ok (.v (.func (.func f) x y)) h
  | _ => .fail "nil"
theorem oNil_ptr {l o : Nat} : oNil (.ptr l o) h = .ok (.ptr l o) h := rfl
theorem oNil_ep {cs : List D} : oNil (.ep cs) h = .ok (.ep cs) h := rfl
def oLen (d : D) (h : H) : O D :=
  match d with
  | .sl _ n _ => .ok (.int .i64 (.ofNat n)) h
  | .row _ _ n _ => .ok (.int .i64 (.ofNat n)) h
  | .v (.slice none 0 0) => .ok (.int .i64 (.ofNat 0)) h
  | _ => .fail "len"
theorem oLen_sl {id n : Nat} {cs : List D} : oLen (.sl id n cs) h = .ok (.int .i64 (.ofNat n)) h := rfl
theorem oLen_row {l o n c : Nat} : oLen (.row l o n c) h = .ok (.int .i64 (.ofNat n)) h := rfl
theorem oLen_nil : oLen (.v (.slice none 0 0)) h = .ok (.int .i64 (.ofNat 0)) h := rfl
def oExt (i : Nat) (d : D) (h : H) : O D :=
  match d with
  | .tup ds => ok? (ds[i]?) h "extract"
  | _ => .fail "extract"
theorem oExt_0 {a : D} {r : List D} : oExt 0 (.tup (a :: r)) h = .ok a h := rfl
theorem oExt_1 {a b : D} {r : List D} : oExt 1 (.tup (a :: b :: r)) h = .ok b h := rfl
theorem oExt_2 {a b c : D} {r : List D} : oExt 2 (.tup (a :: b :: c :: r)) h = .ok c h := rfl
def oNot (E : Env) (d : D) (h : H) : O D := r_un .not (.d d) E nocall (act .nil) h
theorem oNot_bool {b : Bool} : oNot E (.v (.bool b)) h = .ok (.v (.bool !b)) h := rfl
def oIxs (size : Nat) (x i : D) (h : H) : O D := ok? (indexSlD size x i) h "index: slice"
theorem oIxs_sl {size id n i : Nat} {kk : IntKind} {cs : List D} {c : D} {r : List D} (hi : i < n) (hc : cs.drop (i * size) = c :: r) : oIxs size (.sl id n cs) (.int kk (.ofNat i)) h = .ok (.ep (c :: r)) h := by
  have : Nat.blt i n = true := by rw [blt_dec]; exact decide_eq_true hi
  simp only [oIxs, indexSlD, inRange, this, cond_true, hc, ok?]
theorem oIxs_row {size l o n c i : Nat} {kk : IntKind} (hi : i < n) : oIxs size (.row l o n c) (.int kk (.ofNat i)) h = .ok (.ptr l (o + i * size)) h := by
  have : Nat.blt i n = true := by rw [blt_dec]; exact decide_eq_true hi
  simp only [oIxs, indexSlD, inRange, this, cond_true, ok?]
def oSl (size : Nat) (x : D) (hi : D) (h : H) : O D := ok? (sliceD size x none (some hi)) h "slice"
theorem oSl_nil {size : Nat} : oSl size (.v (.slice none 0 0)) (.int .i64 (.ofNat 0)) h = .ok (.v (.slice none 0 0)) h := rfl
/-- The head of a slice that came in. -/
def headSl (size id n : Nat) (cs : List D) (m : Nat) : D := bif Nat.beq m n then .sl id n cs else .sl 0 m (cs.take (m * size))
theorem oSl_sl {size id n m : Nat} {cs : List D} (hm : m ≤ n) : oSl size (.sl id n cs) (.int .i64 (.ofNat m)) h = .ok (headSl size id n cs m) h := by
  have h1 : Nat.ble m n = true := ble_of hm
  have h3 : Nat.beq 0 0 = true := rfl
  simp only [oSl, sliceD, boundsD, hiD, loD, h1, cond_true, Nat.zero_mul, List.drop_zero, Nat.sub_zero, headSl, h3, Bool.true_and]
  cases Nat.beq m n <;> rfl
theorem oSl_row {size l o n c m : Nat} (hm : m ≤ c) (hc : 0 < c) : oSl size (.row l o n c) (.int .i64 (.ofNat m)) h = .ok (.row l o m c) h := by
  have h1 : Nat.ble m c = true := ble_of hm
  have h3 : Nat.beq 0 c = false := by rw [beq_dec]; exact decide_eq_false (by omega)
  simp only [oSl, sliceD, boundsD, hiD, loD, h1, cond_true, h3, cond_false, ok?, Nat.zero_mul, Nat.add_zero, Nat.sub_zero]
def oRd (o : Option AObj) (off n : Nat) : Option (List D) :=
  match o with
  | some (.cells _ cs) => bif Nat.beq ((cs.drop off).take n).length n then some ((cs.drop off).take n) else none
  | _ => none
theorem rc_ptr {l off n : Nat} : readCells h (.ptr l off) n = oRd (hget h.mem l) off n := by
  rw [hget_eq]; rfl
def oEp (cs : List D) (n : Nat) : Option (List D) := bif Nat.beq (cs.take n).length n then some (cs.take n) else none
theorem rc_ep {cs : List D} {n : Nat} : readCells h (.ep cs) n = oEp cs n := rfl
theorem oRd_at {ty : TypeId} {cs xs : List D} {off n : Nat} (hx : (cs.drop off).take n = xs) (hn : xs.length = n) : oRd (some (.cells ty cs)) off n = some xs := by
  simp only [oRd, hx, hn, Nat.beq_refl, cond_true]
theorem oEp_at {cs xs : List D} {n : Nat} (hx : cs.take n = xs) (hn : xs.length = n) : oEp cs n = some xs := by
  simp only [oEp, hx, hn, Nat.beq_refl, cond_true]
def oLd1 (h : H) (d : D) : O D :=
  match readCells h d 1 with
  | some [d] => .ok d h
  | _ => .fail "load"
def oLdN (n : Nat) (h : H) (d : D) : O D :=
  match readCells h d n with
  | some cs => .ok (.agg cs) h
  | none => .fail "loadN"
def oLd1' (o : Option (List D)) (h : H) : O D :=
  match o with
  | some [d] => .ok d h
  | _ => .fail "load"
def oLdN' (o : Option (List D)) (h : H) : O D :=
  match o with
  | some cs => .ok (.agg cs) h
  | none => .fail "loadN"
theorem oLd1_some {d : D} : oLd1' (some [d]) h = .ok d h := rfl
theorem oLdN_some {cs : List D} : oLdN' (some cs) h = .ok (.agg cs) h := rfl
theorem fld1_o : fld1 g E nocall t h = oLd1' (readCells h (g t) 1) h := fld1_eq g E nocall t h (.d (g t)) rfl
theorem fldN_o {n : Nat} : fldN n g E nocall t h = oLdN' (readCells h (g t) n) h := fldN_eq n g E nocall t h (.d (g t)) rfl
def oSt (n : Nat) (a x : D) (h : H) : O D :=
  match a with
  | .ptr l off => match hget h.mem l with
    | some (.cells ty cs) =>
      bif Nat.beq x.cells.length n && allOne x.cells then
        match patch cs off x.cells with
        | some cs => .ok undefD (fput' h l (.cells ty cs))
        | none => .fail "store"
      else .fail "store"
    | _ => .fail "store"
  | _ => .fail "store"
def oSt' (o : Option AObj) (l off : Nat) (xs : List D) (h : H) : O D :=
  match o with
  | some (.cells ty cs) => match patch cs off xs with
    | some cs => .ok undefD (fput' h l (.cells ty cs))
    | none => .fail "store"
  | _ => .fail "store"
theorem oSt_ptr {n l off : Nat} {x : D} {xs : List D} (hx : x.cells = xs) (hl : xs.length = n) (ho : allOne xs = true) : oSt n (.ptr l off) x h = oSt' (hget h.mem l) l off xs h := by
  subst hx
  have h1 : Nat.beq x.cells.length n = true := by rw [hl]; exact Nat.beq_refl n
  simp only [oSt, oSt', h1, ho, Bool.and_self, cond_true]
theorem oSt_at {ty : TypeId} {cs xs ys : List D} {l off : Nat} (hy : patch cs off xs = some ys) : oSt' (some (.cells ty cs)) l off xs h = .ok undefD (fput' h l (.cells ty ys)) := by
  simp only [oSt', hy]
theorem patch_at {cs xs ys : List D} {off : Nat} (hl : off + xs.length ≤ cs.length) (hy : cs.take off ++ xs ++ cs.drop (off + xs.length) = ys) : patch cs off xs = some ys := by
  have : Nat.ble (off + xs.length) cs.length = true := ble_of hl
  simp only [patch, this, cond_true, hy]
def oInt (E : Env) (f : IntKind → Int → Int → D) (op : BinOp) (ty : TypeId) (ox oy : Operand) (x y : D) (h : H) : O D :=
  match x with
  | .int k a => match y with
    | .int k' b => bif kEq k k' then .ok (f k a b) h else ok? (binD E op ty ox oy (.int k a) (.int k' b)) h "bin"
    | y => ok? (binD E op ty ox oy (.int k a) y) h "bin"
  | x => ok? (binD E op ty ox oy x y) h "bin"
theorem oInt_int {f : IntKind → Int → Int → D} {op : BinOp} {ty : TypeId} {ox oy : Operand} {kk : IntKind} {a b : Int} : oInt E f op ty ox oy (.int kk a) (.int kk b) h = .ok (f kk a b) h := by
  have : kEq kk kk = true := by cases kk <;> rfl
  simp only [oInt, this, cond_true]
theorem oInt_nil {ty u : TypeId} {ox oy : Operand} {cs : List D} (hu : E.P.underlying ty = some (.pointer u)) : oInt E deql .eql ty ox oy (.ep cs) (.v (.pointer none)) h = .ok (.v (.bool false)) h := by
  simp only [oInt, binD, quickBin, D.plain, D.plain0, D.plain1, hu, nilEq, ok?]
theorem oInt_nilp {ty u : TypeId} {ox oy : Operand} {l o : Nat} (hu : E.P.underlying ty = some (.pointer u)) : oInt E deql .eql ty ox oy (.ptr l o) (.v (.pointer none)) h = .ok (.v (.bool false)) h := by
  simp only [oInt, binD, quickBin, D.plain, D.plain0, D.plain1, hu, nilEq, ok?]
def oPick (c x y : D) (h : H) : O D :=
  match c with
  | .v (.bool b) => .ok (bif b then x else y) h
  | _ => .fail "pick"
theorem oPick_b {b : Bool} {x y : D} : oPick (.v (.bool b)) x y h = .ok (bif b then x else y) h := rfl
def oBuild (o : Option (List D)) (h : H) : O D :=
  match o with
  | some cs => .ok (.agg cs) h
  | none => .fail "build"
theorem oBuild_some {cs : List D} : oBuild (some cs) h = .ok (.agg cs) h := rfl
def oBuildSl (o : Option (List D)) (e : TypeId) (len : Nat) (h : H) : O D :=
  match o with
  | some cs => .ok (.sl h.next len cs) (fnew h (.tip len e))
  | none => .fail "buildSl"
theorem oBuildSl_some {cs : List D} {e : TypeId} {len : Nat} : oBuildSl (some cs) e len h = .ok (.sl h.next len cs) (fnew h (.tip len e)) := rfl
theorem ffill_nil {cells : List D} : ffill t cells [] = some cells := rfl
def oFill (o : Option (List D)) (t : Tr D) (r : List (Nat × Nat × (Tr D → D))) : Option (List D) :=
  match o with
  | some cells => ffill t cells r
  | none => none
theorem oFill_some {cells : List D} {r : List (Nat × Nat × (Tr D → D))} : oFill (some cells) t r = ffill t cells r := rfl
theorem ffill_cons {cells xs : List D} {off size : Nat} {r : List (Nat × Nat × (Tr D → D))} (hx : (g t).cells = xs) (hs : xs.length = size) : ffill t cells ((off, size, g) :: r) = oFill (patch cells off xs) t r := by
  subst hx
  have h1 : Nat.beq (g t).cells.length size = true := by rw [hs]; exact Nat.beq_refl size
  simp only [ffill, h1, cond_true]
  cases patch cells off (g t).cells <;> rfl
def oLook (z x k : D) (h : H) : O D := r_look 0 z (.d x) (.d k) true E nocall (act .nil) h
def oFind (o : Option (Option D)) (z : D) (h : H) : O D :=
  match o with
  | some (some d) => .ok (.tup [d, .v (.bool true)]) h
  | some none => .ok (.tup [z, .v (.bool false)]) h
  | none => .fail "lookup: key"
theorem oFind_some {d z : D} : oFind (some (some d)) z h = .ok (.tup [d, .v (.bool true)]) h := rfl
theorem oFind_none {z : D} : oFind (some none) z h = .ok (.tup [z, .v (.bool false)]) h := rfl
theorem oLook_map {z : D} {l : Nat} {kk : IntKind} {n : Int} {es : List (D × D)} (hm : hget h.mem l = some (.map es)) : oLook (E := E) z (.map l) (.int kk n) h = oFind (findMap (.int kk n) es) z h := by
  rw [hget_eq] at hm
  simp only [oLook, r_look, AAct.eval, keyOk, cond_true, hm, oFind]
  cases findMap (.int kk n) es with
  | none => rfl
  | some o => cases o <;> rfl
def oMset (m k x : D) (h : H) : O D := r_mset 0 (.d m) (.d k) (.d x) E nocall (act .nil) h
theorem oMset_map {l : Nat} {kk : IntKind} {n : Int} {x : D} {es es' : List (D × D)} (hm : hget h.mem l = some (.map es)) (hs : setMap (.int kk n) x es = some es') : oMset (E := E) (.map l) (.int kk n) x h = .ok undefD (fput' h l (.map es')) := by
  rw [hget_eq] at hm
  simp only [oMset, r_mset, AAct.eval, keyOk, cond_true, hm, hs, fput'_eq]
def oMk (e : TypeId) (size bytes : Nat) (z : List D) (l c : D) (h : H) : O D := r_mksl e size bytes z (.d l) (.d c) E nocall (act .nil) h
theorem oMk_row {e : TypeId} {size bytes n : Nat} {z : List D} (h1 : n ≤ 140737488355328) (h2 : n * bytes ≤ 140737488355328) : oMk (E := E) e size bytes z (.int .i64 (.ofNat n)) (.int .i64 (.ofNat n)) h = .ok (.row h.next 0 n n) (fnew h (.cells e (repeatL z n))) := by
  have e1 : Nat.ble n 140737488355328 = true := ble_of h1
  have e2 : Nat.ble (n * bytes) 140737488355328 = true := ble_of h2
  simp only [oMk, r_mksl, AAct.eval, e1, e2, Bool.and_self, cond_true, Nat.beq_refl, fnew_eq]
def oApp (e : TypeId) (size bytes : Nat) (s x : D) (h : H) : O D := appendD h e size bytes s x
theorem oApp_nil {e : TypeId} {size bytes id m : Nat} {ys : List D} (hm : 0 < m) (ho : allOne ys = true) (hl : ys.length = m * size) (hz : 0 < size) (h1 : m * bytes ≤ 140737488355328) (h2 : m ≤ 140737488355328) :
    oApp e size bytes (.v (.slice none 0 0)) (.sl id m ys) h = .ok (.sl h.next m ys) (fnew h (.tip m e)) := by
  have e0 : Nat.beq m 0 = false := by rw [beq_dec]; exact decide_eq_false (by omega)
  have e1 : Nat.beq size 0 = false := by rw [beq_dec]; exact decide_eq_false (by omega)
  have e2 : Nat.ble (m * bytes) 140737488355328 = true := ble_of h1
  have e3 : Nat.ble m 140737488355328 = true := ble_of h2
  simp only [oApp, appendD, sliceCells, hl, Nat.beq_refl, cond_true, e0, cond_false, ho, e1, Bool.not_false, Bool.and_self, e2, e3, fnew_eq]
theorem oApp_sl {e : TypeId} {size bytes id k n m : Nat} {cs ys : List D} (ht : hget h.mem k = some (.tip n e)) (hm : 0 < m) (ho : allOne ys = true) (hl : ys.length = m * size) (hc : cs.length = n * size) (hz : 0 < size)
    (h1 : (n + m) * bytes ≤ 140737488355328) (h2 : n + m ≤ 140737488355328) :
    oApp e size bytes (.sl k n cs) (.sl id m ys) h = .ok (.sl k (n + m) (cs ++ ys)) (fput' h k (.tip (n + m) e)) := by
  have e0 : Nat.beq m 0 = false := by rw [beq_dec]; exact decide_eq_false (by omega)
  have e1 : Nat.beq size 0 = false := by rw [beq_dec]; exact decide_eq_false (by omega)
  have e2 : Nat.ble ((n + m) * bytes) 140737488355328 = true := ble_of h1
  have e3 : Nat.ble (n + m) 140737488355328 = true := ble_of h2
  rw [hget_eq] at ht
  simp only [oApp, appendD, sliceCells, hl, Nat.beq_refl, cond_true, e0, cond_false, ho, e1, Bool.not_false, Bool.and_self, e2, e3, ht, hc, fput'_eq]

/-! Each operation. -/
theorem wr_mv : WR E T (fo (fmv g) p k) t h Q ↔ WR E T k (p (g t) t) h Q := wr_fo fun _ => rfl
theorem wr_len : WR E T (fo (u1 r_len g) p k) t h Q ↔ sO E T (oLen (g t) h) p k t Q := wr_fo fun _ => rfl
theorem wr_fa {n : Nat} : WR E T (fo (u1 (r_fa n) g) p k) t h Q ↔ sO E T (oFa n (g t) h) p k t Q := wr_fo fun _ => rfl
theorem wr_nil : WR E T (fo (u1 r_nilCheck g) p k) t h Q ↔ sO E T (oNil (g t) h) p k t Q := wr_fo fun _ => rfl
theorem wr_ext {n : Nat} : WR E T (fo (u1 (r_ext n) g) p k) t h Q ↔ sO E T (oExt n (g t) h) p k t Q := wr_fo fun _ => rfl
theorem wr_not : WR E T (fo (u1 (r_un .not) g) p k) t h Q ↔ sO E T (oNot E (g t) h) p k t Q := wr_fo fun _ => rfl
theorem wr_ixs {n : Nat} : WR E T (fo (u2 (r_ixs n) g1 g2) p k) t h Q ↔ sO E T (oIxs n (g1 t) (g2 t) h) p k t Q := wr_fo fun _ => rfl
theorem wr_sl {n : Nat} : WR E T (fo (uo (r_slsl n) g1 none (some g2)) p k) t h Q ↔ sO E T (oSl n (g1 t) (g2 t) h) p k t Q := wr_fo fun _ => rfl
theorem wr_ld1 : WR E T (fo (fld1 g) p k) t h Q ↔ sO E T (oLd1' (readCells h (g t) 1) h) p k t Q := by rw [← fld1_o (E := E)]; exact wr_fo fun _ => rfl
theorem wr_ldN {n : Nat} : WR E T (fo (fldN n g) p k) t h Q ↔ sO E T (oLdN' (readCells h (g t) n) h) p k t Q := by rw [← fldN_o (E := E)]; exact wr_fo fun _ => rfl
theorem wr_st {n : Nat} : WR E T (fo (fst1 n g1 g2) p k) t h Q ↔ sO E T (oSt n (g1 t) (g2 t) h) p k t Q := wr_fo fun _ => rfl
theorem wr_alloc {ty : TypeId} {z : List D} : WR E T (fo (falloc ty z) p k) t h Q ↔ WR E T k (p (.ptr h.next 0) t) (fnew h (.cells ty z)) Q := wr_fo fun _ => rfl
theorem wr_box {ty : TypeId} : WR E T (fo (fbox ty g) p k) t h Q ↔ WR E T k (p (.ptr h.next 0) t) (fnew h (.cells ty (g t).cells)) Q := wr_fo fun _ => rfl
theorem wr_mkmap : WR E T (fo fmkmap p k) t h Q ↔ WR E T k (p (.map h.next) t) (fnew h (.map [])) Q := wr_fo fun _ => rfl
theorem wr_int {f : IntKind → Int → Int → D} {op : BinOp} {ty : TypeId} {ox oy : Operand} : WR E T (fo (qint f op ty ox oy g1 g2) p k) t h Q ↔ sO E T (oInt E f op ty ox oy (g1 t) (g2 t) h) p k t Q := wr_fo fun _ => rfl
theorem wr_sbin {op : BinOp} {ty : TypeId} {ox oy : Operand} : WR E T (fo (sbin op ty ox oy g1 g2) p k) t h Q ↔ sO E T (ok? (binD E op ty ox oy (g1 t) (g2 t)) h "bin") p k t Q := wr_fo fun _ => rfl
theorem wd_int {f : IntKind → Int → Int → D} {op : BinOp} {ty : TypeId} {ox oy : Operand} : WD E T (fdo (qint f op ty ox oy g1 g2) p kd) recs t h Q ↔ sD E T (oInt E f op ty ox oy (g1 t) (g2 t) h) p kd recs t Q := wd_fo fun _ => rfl
theorem okq_some {d : D} {w : String} : ok? (some d) h w = .ok d h := rfl
theorem wr_pick : WR E T (fo (fpick g1 g2 g3) p k) t h Q ↔ sO E T (oPick (g1 t) (g2 t) (g3 t) h) p k t Q := wr_fo fun _ => rfl
theorem wr_build {z : List D} {ps : List (Nat × Nat × (Tr D → D))} : WR E T (fo (fbuild z ps) p k) t h Q ↔ sO E T (oBuild (ffill t z ps) h) p k t Q := wr_fo fun _ => rfl
theorem wr_buildSl {e : TypeId} {len : Nat} {z : List D} {ps : List (Nat × Nat × (Tr D → D))} : WR E T (fo (fbuildSl e len z ps) p k) t h Q ↔ sO E T (oBuildSl (ffill t z ps) e len h) p k t Q := wr_fo fun _ => rfl
theorem wr_look {z : D} : WR E T (fo (u2 (fun x k => r_look 0 z x k true) g1 g2) p k) t h Q ↔ sO E T (oLook (E := E) z (g1 t) (g2 t) h) p k t Q := wr_fo fun _ => rfl
theorem wr_mk {e : TypeId} {size bytes : Nat} {z : List D} : WR E T (fo (u2 (r_mksl e size bytes z) g1 g2) p k) t h Q ↔ sO E T (oMk (E := E) e size bytes z (g1 t) (g2 t) h) p k t Q := wr_fo fun _ => rfl
theorem wr_app {e : TypeId} {size bytes : Nat} : WR E T (fo (u2 (r_app e size bytes) g1 g2) p k) t h Q ↔ sO E T (oApp e size bytes (g1 t) (g2 t) h) p k t Q := wr_fo fun _ => rfl
theorem wr_bi {b : Builtin} {ts : Array TypeId} {ty : TypeId} {cs : Array Bool} {gs : List (Tr D → D)} : WR E T (fo (fbi b ts ty cs gs) p k) t h Q ↔ sO E T (r_bi b ts ty cs ((evs gs t).map .d) E nocall (act t) h) p k t Q := by
  refine (wr_fo fun _ => rfl).trans ?_
  have : (act t).evals ((evs gs t).map .d) = evs gs t := by
    induction gs with
    | nil => rfl
    | cons a r ih => simp only [evs, List.map_cons, AAct.evals, AAct.eval, ih]
  simp only [fbi, r_bi, this]
  rfl

theorem wd_mv : WD E T (fdo (fmv g) p kd) recs t h Q ↔ WD E T kd recs (p (g t) t) h Q := wd_fo fun _ => rfl
theorem wd_fa {n : Nat} : WD E T (fdo (u1 (r_fa n) g) p kd) recs t h Q ↔ sD E T (oFa n (g t) h) p kd recs t Q := wd_fo fun _ => rfl
theorem wd_nil : WD E T (fdo (u1 r_nilCheck g) p kd) recs t h Q ↔ sD E T (oNil (g t) h) p kd recs t Q := wd_fo fun _ => rfl
theorem wd_ext {n : Nat} : WD E T (fdo (u1 (r_ext n) g) p kd) recs t h Q ↔ sD E T (oExt n (g t) h) p kd recs t Q := wd_fo fun _ => rfl
theorem wd_ixs {n : Nat} : WD E T (fdo (u2 (r_ixs n) g1 g2) p kd) recs t h Q ↔ sD E T (oIxs n (g1 t) (g2 t) h) p kd recs t Q := wd_fo fun _ => rfl
theorem wd_alloc {ty : TypeId} {z : List D} : WD E T (fdo (falloc ty z) p kd) recs t h Q ↔ WD E T kd recs (p (.ptr h.next 0) t) (fnew h (.cells ty z)) Q := wd_fo fun _ => rfl
theorem wd_build {z : List D} {ps : List (Nat × Nat × (Tr D → D))} : WD E T (fdo (fbuild z ps) p kd) recs t h Q ↔ sD E T (oBuild (ffill t z ps) h) p kd recs t Q := wd_fo fun _ => rfl
theorem wd_buildSl {e : TypeId} {len : Nat} {z : List D} {ps : List (Nat × Nat × (Tr D → D))} : WD E T (fdo (fbuildSl e len z ps) p kd) recs t h Q ↔ sD E T (oBuildSl (ffill t z ps) e len h) p kd recs t Q := wd_fo fun _ => rfl
theorem wd_ld1 {n : Nat} : WD E T (fdr i inc n g1 (fld1 g) p kd) recs t h Q ↔ sR E T (oLd1' (readCells h (g t) 1) h) (readCells h (g1 t) n) i inc (g1 t) p kd recs t Q := by rw [← fld1_o (E := E)]; exact wd_rd fun _ => rfl
theorem wd_ldN {n m : Nat} : WD E T (fdr i inc n g1 (fldN m g) p kd) recs t h Q ↔ sR E T (oLdN' (readCells h (g t) m) h) (readCells h (g1 t) n) i inc (g1 t) p kd recs t Q := by rw [← fldN_o (E := E)]; exact wd_rd fun _ => rfl
theorem wd_st {n : Nat} : WD E T (fdl i inc (fst1 n g1 g2) p kd) recs t h Q ↔ sL E T (oSt n (g1 t) (g2 t) h) i inc h p kd recs t Q := wd_ld fun _ => rfl
theorem wd_mset : WD E T (fdl i inc (u3 (r_mset 0) g1 g2 g3) p kd) recs t h Q ↔ sL E T (oMset (E := E) (g1 t) (g2 t) (g3 t) h) i inc h p kd recs t Q := wd_ld fun _ => rfl
theorem wd_app {e : TypeId} {size bytes : Nat} : WD E T (fdl i inc (u2 (r_app e size bytes) g1 g2) p kd) recs t h Q ↔ sL E T (oApp e size bytes (g1 t) (g2 t) h) i inc h p kd recs t Q := wd_ld fun _ => rfl

/-! What is left over. -/
theorem ble_dec {m n : Nat} : Nat.ble m n = decide (m ≤ n) := by rw [Bool.eq_iff_iff]; simp only [Nat.ble_eq, decide_eq_true_eq]
theorem wanted_u {w : Bool} : wanted undefD w = false := rfl
theorem wanted_b {b w : Bool} : wanted (.v (.bool b)) w = bif b then w else !w := rfl
theorem evs_nil : evs [] t = [] := rfl
theorem evs_cons {gs : List (Tr D → D)} : evs (g :: gs) t = g t :: evs gs t := rfl
theorem fargs_nil {j : Nat} {ss : List (D → Tr D → Tr D)} : fargs j ss [] t = t := by cases ss <;> rfl
theorem fargs_cons {j : Nat} {s : D → Tr D → Tr D} {ss : List (D → Tr D → Tr D)} {x : D} {xs : List D} : fargs j (s :: ss) (x :: xs) t = fargs (j + 1) ss xs (s x t) := rfl
theorem cells_int {kk : IntKind} {n : Int} : (D.int kk n).cells = [.int kk n] := rfl
theorem cells_str {l : List Nat} : (D.str l).cells = [.str l] := rfl
theorem cells_agg {cs : List D} : (D.agg cs).cells = cs := rfl
theorem cells_sl {id n : Nat} {cs : List D} : (D.sl id n cs).cells = [.sl id n cs] := rfl
theorem cells_row {a b c d : Nat} : (D.row a b c d).cells = [.row a b c d] := rfl
theorem cells_map {l : Nat} : (D.map l).cells = [.map l] := rfl
theorem cells_ptr {l o : Nat} : (D.ptr l o).cells = [.ptr l o] := rfl
theorem cells_bool {b : Bool} : (D.v (.bool b)).cells = [.v (.bool b)] := rfl
theorem cells_nil : (D.v (.slice none 0 0)).cells = [.v (.slice none 0 0)] := rfl
theorem one_nil : allOne [] = true := rfl
theorem one_cons {d : D} {r : List D} : allOne (d :: r) = (d.one && allOne r) := rfl
theorem one_int {kk : IntKind} {n : Int} : (D.int kk n).one = true := rfl
theorem one_str {l : List Nat} : (D.str l).one = true := rfl
theorem one_sl {id n : Nat} {cs : List D} : (D.sl id n cs).one = true := rfl
theorem one_row {a b c d : Nat} : (D.row a b c d).one = true := rfl
theorem one_map {l : Nat} : (D.map l).one = true := rfl
theorem one_ptr {l o : Nat} : (D.ptr l o).one = true := rfl
theorem one_bool {b : Bool} : (D.v (.bool b)).one = true := rfl
theorem one_vnil : (D.v (.slice none 0 0)).one = true := rfl
def oOne (o : Option (List D)) (h : H) : O D :=
  match o with
  | some cs => .ok (.agg cs) h
  | none => .fail "results"
theorem oOne_some {cs : List D} : oOne (some cs) h = .ok (.agg cs) h := rfl
theorem cfin_one {n s : Nat} {c : CC} : cfin ⟨[.cN n s], c⟩ (act t) h = oOne (readCells h (Gt n t) s) h := by
  simp only [cfin, cresults, Gt, geq]
  cases readCells h ((act t).eval (.t n)) s <;> rfl
def oTwo (o : Option (List D)) (d : D) (h : H) : O D :=
  match o with
  | some cs => .ok (.tup [.agg cs, d]) h
  | none => .fail "results"
theorem oTwo_some {cs : List D} {d : D} : oTwo (some cs) d h = .ok (.tup [.agg cs, d]) h := rfl
theorem cfin_two {n s m : Nat} {c : CC} : cfin ⟨[.cN n s, .t m], c⟩ (act t) h = oTwo (readCells h (Gt n t) s) (Gt m t) h := by
  simp only [cfin, cresults, Gt, geq]
  cases readCells h ((act t).eval (.t n)) s <;> rfl
theorem wrap_ok {m : Nat} (hm : m ≤ 9223372036854775807) : wrapQ .i64 (.ofNat m) = .ofNat m := by
  have : Nat.ble m (kMax .i64) = true := ble_of hm
  simp only [wrapQ, this, cond_true]
theorem iAdd_n {m n : Nat} : iAdd (.ofNat m) (.ofNat n) = .ofNat (m + n) := rfl
theorem iEq_n {m n : Nat} : iEq (.ofNat m) (.ofNat n) = Nat.beq m n := rfl
theorem iLt_n {m n : Nat} : iLt (.ofNat m) (.ofNat n) = Nat.blt m n := rfl
theorem add_small {m n : Nat} (hm : m + n ≤ 9223372036854775807) : dadd .i64 (.ofNat m) (.ofNat n) = .int .i64 (.ofNat (m + n)) := by
  simp only [dadd, iAdd_n, wrap_ok hm]
theorem mem_nil {j : Nat} : mem? j [] = false := rfl
theorem readOk_nil {x : D} {cs : List D} : readOk inc x cs [] = true := rfl
theorem readOk_rd {x y : D} {cs ds : List D} {j : Nat} : readOk inc x cs (.rd j y ds :: recs) = readOk inc x cs recs := rfl
theorem readOk_loud {x : D} {cs ds : List D} {j : Nat} {h0 : H} (hc : readCells h0 x cs.length = some ds) (hs : sames cs ds = true) (hr : readOk inc x cs recs = true) : readOk inc x cs (.loud j h0 :: recs) = true := by
  simp only [readOk, hc, hs, Bool.or_true, Bool.true_and, hr]
theorem loudOk_nil : loudOk inc h [] = true := rfl
theorem loudOk_loud {j : Nat} {h0 : H} : loudOk inc h (.loud j h0 :: recs) = loudOk inc h recs := rfl
theorem loudOk_rd {x : D} {cs : List D} {j : Nat} (hm : mem? j inc = false) : loudOk inc h (.rd j x cs :: recs) = loudOk inc h recs := by
  simp only [loudOk, hm, Bool.not_false, Bool.true_or, Bool.true_and]
theorem loudOk_none : loudOk [] h recs = true := by
  induction recs with
  | nil => rfl
  | cons r l ih => cases r <;> simp only [loudOk, mem_nil, Bool.not_false, Bool.true_or, Bool.true_and, ih]
end
end Go.Abs
