/- The quick code, run by rules: calls that may panic; walks that do not look ahead. -/
import Derived.Test.YtgpdodcbkajfgaaGreatDoorNdSym
set_option linter.unusedVariables false
set_option linter.unusedSimpArgs false
namespace Go.Abs
section
variable {E : Env} {T : Nat → FFn}
abbrev Pan := D → H → Prop
def VX (Q : Aft) (R : Pan) : XT → Prop
  | .out e t h => Q e t h
  | .panic d h => R d h
  | .fail _ => False
def VO (Q : D → H → Prop) (R : Pan) : O D → Prop
  | .ok d h => Q d h
  | .panic d h => R d h
  | .fail _ => False
def VP (E : Env) (T : Nat → FFn) (c : FC) (t : Tr D) (h : H) (Q : Aft) (R : Pan) : Prop := ∃ x, XE E T c t h x ∧ VX Q R x
def VR (E : Env) (T : Nat → FFn) (r : FR) (t : Tr D) (h : H) (Q : Aft) (R : Pan) : Prop := ∃ x, RunR E T r t h x ∧ VX Q R x
def VD (E : Env) (T : Nat → FFn) (r : FD) (recs : List Rec) (t : Tr D) (h : H) (Q : Aft) (R : Pan) : Prop := ∃ x, RunD E T r recs t h x ∧ VX Q R x
def VC (E : Env) (T : Nat → FFn) (f : Nat) (args : List D) (h : H) (Q : D → H → Prop) (R : Pan) : Prop := ∃ o, Ev E T f args h o ∧ VO Q R o
theorem VC.mono {f : Nat} {args : List D} {h : H} {Q Q' : D → H → Prop} {R R' : Pan} (hc : VC E T f args h Q R) (hq : ∀ d h', Q d h' → Q' d h') (hr : ∀ d h', R d h' → R' d h') : VC E T f args h Q' R' := by
  obtain ⟨o, he, h1⟩ := hc
  refine ⟨o, he, ?_⟩
  cases o with
  | ok d h' => exact hq _ _ h1
  | panic d h' => exact hr _ _ h1
  | fail w => exact h1
def noPan : Pan := fun _ _ => False
theorem VC.wc {f : Nat} {args : List D} {h : H} {Q : D → H → Prop} (hc : VC E T f args h Q noPan) : WC E T f args h Q := by
  obtain ⟨o, he, hq⟩ := hc
  cases o with
  | ok d h' => exact ⟨d, h', he, hq⟩
  | panic d h' => exact hq.elim
  | fail w => exact hq.elim
theorem VP.mono {c : FC} {t : Tr D} {h : H} {Q Q' : Aft} {R R' : Pan} (hc : VP E T c t h Q R) (hq : ∀ e t' h', Q e t' h' → Q' e t' h') (hr : ∀ d h', R d h' → R' d h') : VP E T c t h Q' R' := by
  obtain ⟨x, he, h1⟩ := hc
  refine ⟨x, he, ?_⟩
  cases x with
  | out e t' h' => exact hq _ _ _ h1
  | panic d h' => exact hr _ _ h1
  | fail w => exact h1
def Lseq (E : Env) (T : Nat → FFn) (b : FC) (Q : Aft) (R : Pan) : Aft := fun e t h =>
  match e with
  | .normal => VP E T b t h Q R
  | .exit i => Q (.exit i) t h
  | .ret => Q .ret t h
def Lfn (res : Tr D → H → O D) (Q : D → H → Prop) : Aft := fun e t h =>
  match e with
  | .exit _ => False
  | _ => sC (res t h) Q
def vO (E : Env) (T : Nat → FFn) (o : O D) (p : D → Tr D → Tr D) (k : FR) (t : Tr D) (Q : Aft) (R : Pan) : Prop :=
  match o with
  | .ok d h => VR E T k (p d t) h Q R
  | .panic d h => R d h
  | .fail _ => False
def vD (E : Env) (T : Nat → FFn) (o : O D) (p : D → Tr D → Tr D) (k : FD) (recs : List Rec) (t : Tr D) (Q : Aft) (R : Pan) : Prop :=
  match o with
  | .ok d h => VD E T k recs (p d t) h Q R
  | _ => False
def vRd (E : Env) (T : Nat → FFn) (o : O D) (c : Option (List D)) (i : Nat) (inc : List Nat) (a : D) (p : D → Tr D → Tr D) (k : FD) (recs : List Rec) (t : Tr D) (Q : Aft) (R : Pan) : Prop :=
  match o, c with
  | .ok d h, some cs => X9 inc a cs recs = true ∧ VD E T k (.rd i a cs :: recs) (p d t) h Q R
  | _, _ => False
def vL (E : Env) (T : Nat → FFn) (o : O D) (i : Nat) (inc : List Nat) (h0 : H) (p : D → Tr D → Tr D) (k : FD) (recs : List Rec) (t : Tr D) (Q : Aft) (R : Pan) : Prop :=
  match o with
  | .ok d h => YL inc h recs = true ∧ VD E T k (.loud i h0 :: recs) (p d t) h Q R
  | _ => False
def vB (E : Env) (T : Nat → FFn) (d : D) (a b : FC) (t : Tr D) (h : H) (Q : Aft) (R : Pan) : Prop :=
  match d with
  | .v (.bool v) => bif v then VP E T a t h Q R else VP E T b t h Q R
  | _ => False
section
variable {d dd : D} {h h' h0 h1 : H} {p : D → Tr D → Tr D} {k : FR} {kd : FD} {t t' : Tr D} {Q : Aft} {R : Pan} {recs : List Rec} {i n : Nat} {inc : List Nat} {cs : List D} {a b : FC} {o o' : O D} {w : String} {r : FR} {rd : FD}
@[congr] theorem VR_congr (ht : t = t') (hh : h = h') : VR E T r t h Q R = VR E T r t' h' Q R := by rw [ht, hh]
@[congr] theorem VD_congr {recs' : List Rec} (hr : recs = recs') (ht : t = t') (hh : h = h') : VD E T rd recs t h Q R = VD E T rd recs' t' h' Q R := by rw [hr, ht, hh]
@[congr] theorem VP_congr (ht : t = t') (hh : h = h') : VP E T a t h Q R = VP E T a t' h' Q R := by rw [ht, hh]
@[congr] theorem vO_congr (ho : o = o') (ht : t = t') : vO E T o p k t Q R = vO E T o' p k t' Q R := by rw [ho, ht]
@[congr] theorem vD_congr {recs' : List Rec} (ho : o = o') (hr : recs = recs') (ht : t = t') : vD E T o p kd recs t Q R = vD E T o' p kd recs' t' Q R := by rw [ho, hr, ht]
@[congr] theorem vRd_congr {recs' : List Rec} {c c' : Option (List D)} {aa aa' : D} (ho : o = o') (hc : c = c') (ha : aa = aa') (hr : recs = recs') (ht : t = t') : vRd E T o c i inc aa p kd recs t Q R = vRd E T o' c' i inc aa' p kd recs' t' Q R := by rw [ho, hc, ha, hr, ht]
@[congr] theorem vL_congr {recs' : List Rec} (ho : o = o') (hh : h0 = h1) (hr : recs = recs') (ht : t = t') : vL E T o i inc h0 p kd recs t Q R = vL E T o' i inc h1 p kd recs' t' Q R := by rw [ho, hh, hr, ht]
@[congr] theorem vB_congr (hd : d = dd) (ht : t = t') (hh : h = h') : vB E T d a b t h Q R = vB E T dd a b t' h' Q R := by rw [hd, ht, hh]
theorem vO_ok : vO E T (.ok d h) p k t Q R ↔ VR E T k (p d t) h Q R := Iff.rfl
theorem vO_pan : vO E T (.panic d h) p k t Q R ↔ R d h := Iff.rfl
theorem vD_ok : vD E T (.ok d h) p kd recs t Q R ↔ VD E T kd recs (p d t) h Q R := Iff.rfl
theorem vRd_ok {aa : D} : vRd E T (.ok d h) (some cs) i inc aa p kd recs t Q R ↔ X9 inc aa cs recs = true ∧ VD E T kd (.rd i aa cs :: recs) (p d t) h Q R := Iff.rfl
theorem vL_ok : vL E T (.ok d h) i inc h0 p kd recs t Q R ↔ YL inc h recs = true ∧ VD E T kd (.loud i h0 :: recs) (p d t) h Q R := Iff.rfl
theorem vB_t : vB E T (.v (.bool true)) a b t h Q R ↔ VP E T a t h Q R := Iff.rfl
theorem vB_f : vB E T (.v (.bool false)) a b t h Q R ↔ VP E T b t h Q R := Iff.rfl
theorem lseq_n {Q : Aft} : Lseq E T b Q R .normal t h ↔ VP E T b t h Q R := Iff.rfl
theorem lseq_r {Q : Aft} : Lseq E T b Q R .ret t h ↔ Q .ret t h := Iff.rfl
theorem lseq_e {Q : Aft} : Lseq E T b Q R (.exit i) t h ↔ Q (.exit i) t h := Iff.rfl
theorem lfn_n {res : Tr D → H → O D} {Q : D → H → Prop} : Lfn res Q .normal t h ↔ sC (res t h) Q := Iff.rfl
theorem lfn_r {res : Tr D → H → O D} {Q : D → H → Prop} : Lfn res Q .ret t h ↔ sC (res t h) Q := Iff.rfl
theorem YP {f : FOp} (hf : ∀ c, f E c t h = f E Yx t h) : VR E T (fo f p k) t h Q R ↔ vO E T (f E Yx t h) p k t Q R := by
  constructor
  · rintro ⟨x, ⟨N, hN⟩, hq⟩
    cases ho : f E Yx t h with
    | ok d h1 =>
      refine ⟨x, ⟨N, fun n hn => ?_⟩, hq⟩
      have := hN n hn
      simp only [fo, hf, ho] at this
      exact this
    | panic d h1 =>
      have := hN N (Nat.le_refl _)
      simp only [fo, hf, ho] at this
      subst this
      exact hq
    | fail w =>
      have := hN N (Nat.le_refl _)
      simp only [fo, hf, ho] at this
      subst this
      exact hq
  · intro hs
    cases ho : f E Yx t h with
    | ok d h1 =>
      rw [ho] at hs
      obtain ⟨x, hr, hq⟩ := hs
      exact ⟨x, runr_op (fun c => (hf c).trans ho) hr, hq⟩
    | panic d h1 =>
      rw [ho] at hs
      exact ⟨.panic d h1, ⟨0, fun n _ => by simp only [fo, hf, ho]⟩, hs⟩
    | fail w => rw [ho] at hs; exact hs.elim
theorem vr_end : VR E T Z2 t h Q R ↔ Q .normal t h := by
  constructor
  · rintro ⟨x, ⟨N, hN⟩, hq⟩
    have := hN N (Nat.le_refl _)
    subst this
    exact hq
  · intro hq; exact ⟨_, runr_end, hq⟩
def vG (E : Env) (T : Nat → FFn) (b : Bool) (f : FOp) (p : D → Tr D → Tr D) (k : FR) (t : Tr D) (h : H) (Q : Aft) (R : Pan) : Prop := bif b then VR E T (fo f p k) t h Q R else VR E T k (p Yr t) h Q R
@[congr] theorem vG_congr {b b' : Bool} {f : FOp} (hb : b = b') (ht : t = t') (hh : h = h') : vG E T b f p k t h Q R = vG E T b' f p k t' h' Q R := by rw [hb, ht, hh]
theorem vG_t {f : FOp} : vG E T true f p k t h Q R ↔ VR E T (fo f p k) t h Q R := Iff.rfl
theorem vG_f {f : FOp} : vG E T false f p k t h Q R ↔ VR E T k (p Yr t) h Q R := Iff.rfl
theorem vr_fog {g : Tr D → D} {w : Bool} {f : FOp} : VR E T (fog g w f p k) t h Q R ↔ vG E T (wanted (g t) w) f p k t h Q R := by
  unfold vG VR RunR
  cases hw : wanted (g t) w <;> simp only [fog, hw, cond_true, cond_false]
theorem vd_fo {f : FOp} (hf : ∀ c, f E c t h = f E Yx t h) : VD E T (fdo f p kd) recs t h Q R ↔ vD E T (f E Yx t h) p kd recs t Q R := by
  constructor
  · rintro ⟨x, ⟨N, hN⟩, hq⟩
    cases ho : f E Yx t h with
    | ok d h1 =>
      refine ⟨x, ⟨N, fun n hn => ?_⟩, hq⟩
      have := hN n hn
      simp only [fdo, hf, ho] at this
      exact this
    | panic d h1 =>
      have := hN N (Nat.le_refl _)
      simp only [fdo, hf, ho] at this
      subst this
      exact hq
    | fail w =>
      have := hN N (Nat.le_refl _)
      simp only [fdo, hf, ho] at this
      subst this
      exact hq
  · intro hs
    cases ho : f E Yx t h with
    | ok d h1 =>
      rw [ho] at hs
      obtain ⟨x, hr, hq⟩ := hs
      exact ⟨x, rund_op (fun c => (hf c).trans ho) hr, hq⟩
    | panic d h1 => rw [ho] at hs; exact hs.elim
    | fail w => rw [ho] at hs; exact hs.elim
theorem vd_end : VD E T Y2 recs t h Q R ↔ Q .normal t h := by
  constructor
  · rintro ⟨x, ⟨N, hN⟩, hq⟩
    have := hN N (Nat.le_refl _)
    subst this
    exact hq
  · intro hq; exact ⟨_, rund_end, hq⟩
theorem vd_rd {g : Tr D → D} {f : FOp} (hf : ∀ c, f E c t h = f E Yx t h) :
    VD E T (fdr i inc n g f p kd) recs t h Q R ↔ vRd E T (f E Yx t h) (Za h (g t) n) i inc (g t) p kd recs t Q R := by
  constructor
  · rintro ⟨x, ⟨N, hN⟩, hq⟩
    have h0 := hN N (Nat.le_refl _)
    cases ho : f E Yx t h with
    | ok d h1 =>
      cases hc : Za h (g t) n with
      | none => simp only [fdr, hf, ho, hc] at h0; subst h0; exact hq
      | some cs =>
        cases hb : X9 inc (g t) cs recs with
        | false => simp only [fdr, hf, ho, hc, hb, cond_false] at h0; subst h0; exact hq.elim
        | true =>
          refine ⟨hb, x, ⟨N, fun n hn => ?_⟩, hq⟩
          have := hN n hn
          simp only [fdr, hf, ho, hc, hb, cond_true] at this
          exact this
    | panic d h1 => simp only [fdr, hf, ho] at h0; subst h0; exact hq
    | fail w => simp only [fdr, hf, ho] at h0; subst h0; exact hq
  · intro hs
    cases ho : f E Yx t h with
    | ok d h1 =>
      rw [ho] at hs
      cases hc : Za h (g t) n with
      | none => rw [hc] at hs; exact hs.elim
      | some cs =>
        rw [hc] at hs
        obtain ⟨hb, x, hr, hq⟩ := hs
        exact ⟨x, rund_read (fun c => (hf c).trans ho) hc hb hr, hq⟩
    | panic d h1 => rw [ho] at hs; exact hs.elim
    | fail w => rw [ho] at hs; exact hs.elim
theorem vd_ld {f : FOp} (hf : ∀ c, f E c t h = f E Yx t h) :
    VD E T (fdl i inc f p kd) recs t h Q R ↔ vL E T (f E Yx t h) i inc h p kd recs t Q R := by
  constructor
  · rintro ⟨x, ⟨N, hN⟩, hq⟩
    have h0 := hN N (Nat.le_refl _)
    cases ho : f E Yx t h with
    | ok d h1 =>
      cases hb : YL inc h1 recs with
      | false => simp only [fdl, hf, ho, hb, cond_false] at h0; subst h0; exact hq.elim
      | true =>
        refine ⟨hb, x, ⟨N, fun n hn => ?_⟩, hq⟩
        have := hN n hn
        simp only [fdl, hf, ho, hb, cond_true] at this
        exact this
    | panic d h1 => simp only [fdl, hf, ho] at h0; subst h0; exact hq
    | fail w => simp only [fdl, hf, ho] at h0; subst h0; exact hq
  · intro hs
    cases ho : f E Yx t h with
    | ok d h1 =>
      rw [ho] at hs
      obtain ⟨hb, x, hr, hq⟩ := hs
      exact ⟨x, rund_loud (fun c => (hf c).trans ho) hb hr, hq⟩
    | panic d h1 => rw [ho] at hs; exact hs.elim
    | fail w => rw [ho] at hs; exact hs.elim
theorem Zy {f : Nat} {gs : List (Tr D → D)} (hc : VC E T f (evs gs t) h (fun d h' => VR E T k (p d t) h' Q R) R) : VR E T (fo (Zo f gs) p k) t h Q R := by
  obtain ⟨o, ⟨M, hM⟩, ho⟩ := hc
  cases o with
  | ok d h1 =>
    obtain ⟨x, hr, hq⟩ := ho
    exact ⟨x, runr_call ⟨M, hM⟩ hr, hq⟩
  | panic d h1 => exact ⟨.panic d h1, ⟨M, fun n hn => by show O.casesOn (motive := fun _ => XT) (Yb E T n f (evs gs t) h) _ _ _ = _; rw [hM n hn]⟩, ho⟩
  | fail w => exact ho.elim
theorem Zz {f : Nat} {gs : List (Tr D → D)} (hc : VC E T f (evs gs t) h (fun d h' => YL inc h' recs = true ∧ VD E T kd (.loud i h :: recs) (p d t) h' Q R) noPan) : VD E T (fdl i inc (Zo f gs) p kd) recs t h Q R := by
  obtain ⟨o, he, ho⟩ := hc
  cases o with
  | ok d h1 =>
    obtain ⟨hb, x, hr, hq⟩ := ho
    exact ⟨x, rund_call he hb hr, hq⟩
  | panic d h1 => exact ho.elim
  | fail w => exact ho.elim
theorem Zk (hq : Q .normal t h) : VP E T Z9 t h Q R := ⟨_, runs_skip, hq⟩
theorem Zl (hq : Q (.exit i) t h) : VP E T (Yh i) t h Q R := ⟨_, runs_exit, hq⟩
theorem ZG (hq : Q .ret t h) : VP E T Ze t h Q R := ⟨_, runs_ret, hq⟩
theorem ZH (hq : VR E T r t h Q R) : VP E T (Z1 r) t h Q R := by
  obtain ⟨x, hr, hq⟩ := hq
  exact ⟨_, runs_reg hr, hq⟩
theorem Zm (hq : VD E T rd [] t h Q R) : VP E T (Y1 rd) t h Q R := by
  obtain ⟨x, hr, hq⟩ := hq
  exact ⟨_, runs_dreg hr, hq⟩
theorem runs_seq_pan {a b : FC} (ha : XE E T a t h (.panic d h1)) : XE E T (Z0 a b) t h (.panic d h1) := by
  obtain ⟨N, hN⟩ := ha
  refine ⟨N + 1, fun n m hn hm => ?_⟩
  cases m with
  | zero => omega
  | succ m =>
    show XT.casesOn (motive := fun _ => XT) (a E (Yb E T n) m t h) _ _ _ = _
    rw [hN n m (by omega) (by omega)]
theorem runs_block_pan {a : FC} {id : Nat} (ha : XE E T a t h (.panic d h1)) : XE E T (Zb id a) t h (.panic d h1) := by
  obtain ⟨N, hN⟩ := ha
  refine ⟨N + 1, fun n m hn hm => ?_⟩
  cases m with
  | zero => omega
  | succ m =>
    show XT.casesOn (motive := fun _ => XT) (a E (Yb E T n) m t h) _ _ _ = _
    rw [hN n m (by omega) (by omega)]
theorem runs_loop_pan {a : FC} (ha : XE E T a t h (.panic d h1)) : XE E T (Y3 a) t h (.panic d h1) := by
  obtain ⟨N, hN⟩ := ha
  refine ⟨N + 1, fun n m hn hm => ?_⟩
  cases m with
  | zero => omega
  | succ m =>
    simp only [Y3]
    rw [hN n m (by omega) (by omega)]
theorem ZF (hq : VP E T a t h (Lseq E T b Q R) R) : VP E T (Z0 a b) t h Q R := by
  obtain ⟨x, hr, hq⟩ := hq
  cases x with
  | out e t1 h1 => cases e with
    | normal =>
      obtain ⟨x, hr', hq⟩ := hq
      exact ⟨_, runs_seq hr hr', hq⟩
    | exit i => exact ⟨_, runs_seq_out hr trivial, hq⟩
    | ret => exact ⟨_, runs_seq_out hr trivial, hq⟩
  | panic d h1 => exact ⟨_, runs_seq_pan hr, hq⟩
  | fail w => exact hq.elim
theorem Zd {id : Nat} (hq : VP E T a t h (Kblk id Q) R) : VP E T (Zb id a) t h Q R := by
  obtain ⟨x, hr, hq⟩ := hq
  cases x with
  | out e t1 h1 => exact ⟨_, runs_block hr, hq⟩
  | panic d h1 => exact ⟨_, runs_block_pan hr, hq⟩
  | fail w => exact hq.elim
theorem Zn {g : Tr D → D} (hq : vB E T (g t) a b t h Q R) : VP E T (Z6 g a b) t h Q R := by
  unfold vB at hq
  split at hq
  · rename_i v hv
    cases v with
    | true =>
      obtain ⟨x, hr, hq⟩ := hq
      exact ⟨_, runs_cond true hv hr, hq⟩
    | false =>
      obtain ⟨x, hr, hq⟩ := hq
      exact ⟨_, runs_cond false hv hr, hq⟩
  · exact hq.elim
def Lloop (I : Nat → Tr D → H → Prop) (n : Nat) (Q : Aft) : Aft := fun e t h =>
  match e with
  | .normal => ∃ m, m < n ∧ I m t h
  | .exit i => Q (.exit i) t h
  | .ret => Q .ret t h
theorem lloop_n {I : Nat → Tr D → H → Prop} {Q : Aft} : Lloop I n Q .normal t h ↔ ∃ m, m < n ∧ I m t h := Iff.rfl
theorem lloop_e {I : Nat → Tr D → H → Prop} {Q : Aft} : Lloop I n Q (.exit i) t h ↔ Q (.exit i) t h := Iff.rfl
theorem lloop_r {I : Nat → Tr D → H → Prop} {Q : Aft} : Lloop I n Q .ret t h ↔ Q .ret t h := Iff.rfl
theorem vp_loop (I : Nat → Tr D → H → Prop) {n : Nat} {t : Tr D} {h : H} (hi : I n t h) (hb : ∀ n t h, I n t h → VP E T a t h (Lloop I n Q) R) : VP E T (Y3 a) t h Q R := by
  induction n using Nat.strongRecOn generalizing t h with
  | ind n ih =>
    obtain ⟨x, hr, hq⟩ := hb n t h hi
    cases x with
    | out e t1 h1 => cases e with
      | normal =>
        obtain ⟨m, hm, hq⟩ := hq
        obtain ⟨x, hr', hq⟩ := ih m hm hq
        exact ⟨_, runs_loop hr hr', hq⟩
      | exit i => exact ⟨_, runs_loop_out hr trivial, hq⟩
      | ret => exact ⟨_, runs_loop_out hr trivial, hq⟩
    | panic d h1 => exact ⟨_, runs_loop_pan hr, hq⟩
    | fail w => exact hq.elim
theorem vp_loopC (I : Tr D → H → Nat → Tr D → H → Prop) (n : Nat) (hi : I t h n t h) (hb : ∀ n t1 h1, I t h n t1 h1 → VP E T a t1 h1 (Lloop (I t h) n Q) R) : VP E T (Y3 a) t h Q R := vp_loop (I t h) hi hb
theorem Ya {f : Nat} {ss : List (D → Tr D → Tr D)} {res : Tr D → H → O D} {body : FC} {args : List D} {Q : D → H → Prop} (hT : T f = ffn ss res body) (hq : VP E T body (fargs 0 ss args .nil) h (Lfn res Q) R) : VC E T f args h Q R := by
  obtain ⟨x, hr, hq⟩ := hq
  have fin : ∀ e t1 h1, ends e → XE E T body (fargs 0 ss args .nil) h (.out e t1 h1) → sC (res t1 h1) Q → VC E T f args h Q R := by
    intro e t1 h1 he hr hq
    cases ho : res t1 h1 with
    | ok d h2 => rw [ho] at hq; exact ⟨.ok d h2, ev_fn hT hr he ho, hq⟩
    | panic d h2 => rw [ho] at hq; exact hq.elim
    | fail w => rw [ho] at hq; exact hq.elim
  cases x with
  | out e t1 h1 => cases e with
    | normal => exact fin .normal _ _ trivial hr hq
    | exit i => exact hq.elim
    | ret => exact fin .ret _ _ trivial hr hq
  | panic d h1 =>
    obtain ⟨N, hN⟩ := hr
    refine ⟨.panic d h1, ⟨N + 1, fun n hn => ?_⟩, hq⟩
    cases n with
    | zero => omega
    | succ n =>
      show T f E n (Yb E T n) args h = _
      rw [hT]
      show XT.casesOn (motive := fun _ => O D) (body E (Yb E T n) n (fargs 0 ss args .nil) h) _ _ _ = _
      rw [hN n n (by omega) (by omega)]
  | fail w => exact hq.elim
theorem vc_lib {f : Nat} {g : List D → H → O D} {args : List D} {Q : D → H → Prop} (hT : T f = flib g) (hq : VO Q R (g args h)) : VC E T f args h Q R := ⟨_, ev_lib hT rfl, hq⟩
end
variable {p : D → Tr D → Tr D} {k : FR} {kd : FD} {recs : List Rec} {t : Tr D} {h : H} {Q : Aft} {R : Pan} {g g1 g2 g3 : Tr D → D} {i : Nat} {inc : List Nat}
theorem vr_mv : VR E T (fo (fmv g) p k) t h Q R ↔ VR E T k (p (g t) t) h Q R := YP fun _ => rfl
theorem vr_len : VR E T (fo (u1 Xl g) p k) t h Q R ↔ vO E T (oLen (g t) h) p k t Q R := YP fun _ => rfl
theorem vr_fa {n : Nat} : VR E T (fo (u1 (YC n) g) p k) t h Q R ↔ vO E T (oFa n (g t) h) p k t Q R := YP fun _ => rfl
theorem vr_nil : VR E T (fo (u1 ZJ g) p k) t h Q R ↔ vO E T (oNil (g t) h) p k t Q R := YP fun _ => rfl
theorem vr_ext {n : Nat} : VR E T (fo (u1 (r_ext n) g) p k) t h Q R ↔ vO E T (oExt n (g t) h) p k t Q R := YP fun _ => rfl
theorem vr_not : VR E T (fo (u1 (r_un .not) g) p k) t h Q R ↔ vO E T (oNot E (g t) h) p k t Q R := YP fun _ => rfl
theorem vr_ixs {n : Nat} : VR E T (fo (u2 (r_ixs n) g1 g2) p k) t h Q R ↔ vO E T (oIxs n (g1 t) (g2 t) h) p k t Q R := YP fun _ => rfl
theorem vr_sl {n : Nat} : VR E T (fo (uo (r_slsl n) g1 none (some g2)) p k) t h Q R ↔ vO E T (oSl n (g1 t) (g2 t) h) p k t Q R := YP fun _ => rfl
theorem vr_ld1 : VR E T (fo (Zh g) p k) t h Q R ↔ vO E T (oLd1' (Za h (g t) 1) h) p k t Q R := by rw [← fld1_o (E := E)]; exact YP fun _ => rfl
theorem vr_ldN {n : Nat} : VR E T (fo (ZT n g) p k) t h Q R ↔ vO E T (oLdN' (Za h (g t) n) h) p k t Q R := by rw [← fldN_o (E := E)]; exact YP fun _ => rfl
theorem vr_st {n : Nat} : VR E T (fo (ZE n g1 g2) p k) t h Q R ↔ vO E T (oSt n (g1 t) (g2 t) h) p k t Q R := YP fun _ => rfl
theorem vr_alloc {ty : TypeId} {z : List D} : VR E T (fo (Zr ty z) p k) t h Q R ↔ VR E T k (p (.ptr h.next 0) t) (W8 h (.cells ty z)) Q R := YP fun _ => rfl
theorem vr_box {ty : TypeId} : VR E T (fo (X0 ty g) p k) t h Q R ↔ VR E T k (p (.ptr h.next 0) t) (W8 h (.cells ty (g t).cells)) Q R := YP fun _ => rfl
theorem vr_mkmap : VR E T (fo fmkmap p k) t h Q R ↔ VR E T k (p (.map h.next) t) (W8 h (.map [])) Q R := YP fun _ => rfl
theorem vr_int {f : IntKind → Int → Int → D} {op : BinOp} {ty : TypeId} {ox oy : Operand} : VR E T (fo (Zc f op ty ox oy g1 g2) p k) t h Q R ↔ vO E T (oInt E f op ty ox oy (g1 t) (g2 t) h) p k t Q R := YP fun _ => rfl
theorem vr_sbin {op : BinOp} {ty : TypeId} {ox oy : Operand} : VR E T (fo (sbin op ty ox oy g1 g2) p k) t h Q R ↔ vO E T (ok? (binD E op ty ox oy (g1 t) (g2 t)) h "bin") p k t Q R := YP fun _ => rfl
theorem vd_int {f : IntKind → Int → Int → D} {op : BinOp} {ty : TypeId} {ox oy : Operand} : VD E T (fdo (Zc f op ty ox oy g1 g2) p kd) recs t h Q R ↔ vD E T (oInt E f op ty ox oy (g1 t) (g2 t) h) p kd recs t Q R := vd_fo fun _ => rfl
theorem vr_pick : VR E T (fo (ZO g1 g2 g3) p k) t h Q R ↔ vO E T (oPick (g1 t) (g2 t) (g3 t) h) p k t Q R := YP fun _ => rfl
theorem vr_build {z : List D} {ps : List (Nat × Nat × (Tr D → D))} : VR E T (fo (ZR z ps) p k) t h Q R ↔ vO E T (oBuild (ffill t z ps) h) p k t Q R := YP fun _ => rfl
theorem Wd {e : TypeId} {len : Nat} {z : List D} {ps : List (Nat × Nat × (Tr D → D))} : VR E T (fo (Y6 e len z ps) p k) t h Q R ↔ vO E T (oBuildSl (ffill t z ps) e len h) p k t Q R := YP fun _ => rfl
theorem vr_look {z : D} : VR E T (fo (u2 (fun x k => r_look 0 z x k true) g1 g2) p k) t h Q R ↔ vO E T (oLook (E := E) z (g1 t) (g2 t) h) p k t Q R := YP fun _ => rfl
theorem vr_mk {e : TypeId} {size bytes : Nat} {z : List D} : VR E T (fo (u2 (XK e size bytes z) g1 g2) p k) t h Q R ↔ vO E T (oMk (E := E) e size bytes z (g1 t) (g2 t) h) p k t Q R := YP fun _ => rfl
theorem vr_app {e : TypeId} {size bytes : Nat} : VR E T (fo (u2 (YY e size bytes) g1 g2) p k) t h Q R ↔ vO E T (oApp e size bytes (g1 t) (g2 t) h) p k t Q R := YP fun _ => rfl
theorem vr_bi {b : Builtin} {ts : Array TypeId} {ty : TypeId} {cs : Array Bool} {gs : List (Tr D → D)} : VR E T (fo (fbi b ts ty cs gs) p k) t h Q R ↔ vO E T (r_bi b ts ty cs ((evs gs t).map .d) E Yx (act t) h) p k t Q R := by
  refine (YP fun _ => rfl).trans ?_
  have : (act t).evals ((evs gs t).map .d) = evs gs t := by
    induction gs with
    | nil => rfl
    | cons a r ih => simp only [evs, List.map_cons, AAct.evals, AAct.eval, ih]
  simp only [fbi, r_bi, this]
  rfl
theorem vd_mv : VD E T (fdo (fmv g) p kd) recs t h Q R ↔ VD E T kd recs (p (g t) t) h Q R := vd_fo fun _ => rfl
theorem vd_fa {n : Nat} : VD E T (fdo (u1 (YC n) g) p kd) recs t h Q R ↔ vD E T (oFa n (g t) h) p kd recs t Q R := vd_fo fun _ => rfl
theorem vd_nil : VD E T (fdo (u1 ZJ g) p kd) recs t h Q R ↔ vD E T (oNil (g t) h) p kd recs t Q R := vd_fo fun _ => rfl
theorem vd_ext {n : Nat} : VD E T (fdo (u1 (r_ext n) g) p kd) recs t h Q R ↔ vD E T (oExt n (g t) h) p kd recs t Q R := vd_fo fun _ => rfl
theorem vd_ixs {n : Nat} : VD E T (fdo (u2 (r_ixs n) g1 g2) p kd) recs t h Q R ↔ vD E T (oIxs n (g1 t) (g2 t) h) p kd recs t Q R := vd_fo fun _ => rfl
theorem vd_alloc {ty : TypeId} {z : List D} : VD E T (fdo (Zr ty z) p kd) recs t h Q R ↔ VD E T kd recs (p (.ptr h.next 0) t) (W8 h (.cells ty z)) Q R := vd_fo fun _ => rfl
theorem vd_build {z : List D} {ps : List (Nat × Nat × (Tr D → D))} : VD E T (fdo (ZR z ps) p kd) recs t h Q R ↔ vD E T (oBuild (ffill t z ps) h) p kd recs t Q R := vd_fo fun _ => rfl
theorem We {e : TypeId} {len : Nat} {z : List D} {ps : List (Nat × Nat × (Tr D → D))} : VD E T (fdo (Y6 e len z ps) p kd) recs t h Q R ↔ vD E T (oBuildSl (ffill t z ps) e len h) p kd recs t Q R := vd_fo fun _ => rfl
theorem vd_ld1 {n : Nat} : VD E T (fdr i inc n g1 (Zh g) p kd) recs t h Q R ↔ vRd E T (oLd1' (Za h (g t) 1) h) (Za h (g1 t) n) i inc (g1 t) p kd recs t Q R := by rw [← fld1_o (E := E)]; exact vd_rd fun _ => rfl
theorem vd_ldN {n m : Nat} : VD E T (fdr i inc n g1 (ZT m g) p kd) recs t h Q R ↔ vRd E T (oLdN' (Za h (g t) m) h) (Za h (g1 t) n) i inc (g1 t) p kd recs t Q R := by rw [← fldN_o (E := E)]; exact vd_rd fun _ => rfl
theorem vd_st {n : Nat} : VD E T (fdl i inc (ZE n g1 g2) p kd) recs t h Q R ↔ vL E T (oSt n (g1 t) (g2 t) h) i inc h p kd recs t Q R := vd_ld fun _ => rfl
theorem vd_mset : VD E T (fdl i inc (u3 (r_mset 0) g1 g2 g3) p kd) recs t h Q R ↔ vL E T (oMset (E := E) (g1 t) (g2 t) (g3 t) h) i inc h p kd recs t Q R := vd_ld fun _ => rfl
theorem vd_app {e : TypeId} {size bytes : Nat} : VD E T (fdl i inc (u2 (YY e size bytes) g1 g2) p kd) recs t h Q R ↔ vL E T (oApp e size bytes (g1 t) (g2 t) h) i inc h p kd recs t Q R := vd_ld fun _ => rfl
theorem vr_b2s : VR E T (fo (u1 r_b2s g) p k) t h Q R ↔ vO E T (oB2s (g t) h) p k t Q R := YP fun _ => rfl
theorem vr_lens : VR E T (fo (u1 Xo g) p k) t h Q R ↔ vO E T (oLens (g t) h) p k t Q R := YP fun _ => rfl
theorem vr_slstr {lo hi : Option (Tr D → D)} : VR E T (fo (Xy g lo hi) p k) t h Q R ↔ vO E T (oSlstr (lo.map (· t)) (hi.map (· t)) (g t) h) p k t Q R := by
  rw [← fslstr_o (E := E) Yx]
  exact YP fun c => by rw [fslstr_o, fslstr_o]
def oCint (kk : IntKind) (d : D) (h : H) : O D :=
  match d with
  | .int _ n => .ok (.int kk (wrapQ kk n)) h
  | _ => .fail "cint"
theorem vr_cint {kk : IntKind} : VR E T (fo (fcint kk g) p k) t h Q R ↔ vO E T (oCint kk (g t) h) p k t Q R := YP fun _ => rfl
theorem vd_cint {kk : IntKind} : VD E T (fdo (fcint kk g) p kd) recs t h Q R ↔ vD E T (oCint kk (g t) h) p kd recs t Q R := vd_fo fun _ => rfl
theorem oCint_n {kk ki : IntKind} {n : Int} : oCint kk (.int ki n) h = .ok (.int kk (wrapQ kk n)) h := rfl
end
end Go.Abs
