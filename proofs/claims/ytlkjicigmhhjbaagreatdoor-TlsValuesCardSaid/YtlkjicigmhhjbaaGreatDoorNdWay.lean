/- The quick code, run by rules: calls that may panic; walks that do not look ahead. -/
import Derived.Test.YtlkjicigmhhjbaaGreatDoorNdSym
set_option linter.unusedVariables false
set_option linter.unusedSimpArgs false
namespace Go.Abs
noncomputable section
section
variable {E : Env} {T : Nat → ZE}
abbrev Uk := D → H → Prop
def VX (Q : Uc) (R : Uk) : XT → Prop
  | .out e t h => Q e t h
  | .panic d h => R d h
  | .fail _ => False
def VO (Q : D → H → Prop) (R : Uk) : O D → Prop
  | .ok d h => Q d h
  | .panic d h => R d h
  | .fail _ => False
def VP (E : Env) (T : Nat → ZE) (c : FC) (t : Tr D) (h : H) (Q : Uc) (R : Uk) : Prop := ∃ x, Ub E T c t h x ∧ VX Q R x
def VR (E : Env) (T : Nat → ZE) (r : FR) (t : Tr D) (h : H) (Q : Uc) (R : Uk) : Prop := ∃ x, Zxa E T r t h x ∧ VX Q R x
def VD (E : Env) (T : Nat → ZE) (r : FD) (recs : List Rec) (t : Tr D) (h : H) (Q : Uc) (R : Uk) : Prop := ∃ x, Zma E T r recs t h x ∧ VX Q R x
def VC (E : Env) (T : Nat → ZE) (f : Nat) (args : List D) (h : H) (Q : D → H → Prop) (R : Uk) : Prop := ∃ o, Ev E T f args h o ∧ VO Q R o
theorem VC.mono {f : Nat} {args : List D} {h : H} {Q Q' : D → H → Prop} {R R' : Uk} (hc : VC E T f args h Q R) (hq : ∀ d h', Q d h' → Q' d h') (hr : ∀ d h', R d h' → R' d h') : VC E T f args h Q' R' := by
  obtain ⟨o, he, h1⟩ := hc
  refine ⟨o, he, ?_⟩
  cases o with
  | ok d h' => exact hq _ _ h1
  | panic d h' => exact hr _ _ h1
  | fail w => exact h1
def Zc2 : Uk := fun _ _ => False
theorem VP.mono {c : FC} {t : Tr D} {h : H} {Q Q' : Uc} {R R' : Uk} (hc : VP E T c t h Q R) (hq : ∀ e t' h', Q e t' h' → Q' e t' h') (hr : ∀ d h', R d h' → R' d h') : VP E T c t h Q' R' := by
  obtain ⟨x, he, h1⟩ := hc
  refine ⟨x, he, ?_⟩
  cases x with
  | out e t' h' => exact hq _ _ _ h1
  | panic d h' => exact hr _ _ h1
  | fail w => exact h1
def Lseq (E : Env) (T : Nat → ZE) (b : FC) (Q : Uc) (R : Uk) : Uc := fun e t h =>
  match e with
  | .normal => VP E T b t h Q R
  | .exit i => Q (.exit i) t h
  | .ret => Q .ret t h
def Zze (res : Tr D → H → O D) (Q : D → H → Prop) : Uc := fun e t h =>
  match e with
  | .exit _ => False
  | _ => sC (res t h) Q
def vO (E : Env) (T : Nat → ZE) (o : O D) (p : D → Tr D → Tr D) (k : FR) (t : Tr D) (Q : Uc) (R : Uk) : Prop :=
  match o with
  | .ok d h => VR E T k (p d t) h Q R
  | .panic d h => R d h
  | .fail _ => False
def vD (E : Env) (T : Nat → ZE) (o : O D) (p : D → Tr D → Tr D) (k : FD) (recs : List Rec) (t : Tr D) (Q : Uc) (R : Uk) : Prop :=
  match o with
  | .ok d h => VD E T k recs (p d t) h Q R
  | _ => False
def vRd (E : Env) (T : Nat → ZE) (o : O D) (c : Option (List D)) (i : Nat) (inc : List Nat) (a : D) (p : D → Tr D → Tr D) (k : FD) (recs : List Rec) (t : Tr D) (Q : Uc) (R : Uk) : Prop :=
  match o, c with
  | .ok d h, some cs => XP inc a cs recs = true ∧ VD E T k (.rd i a cs :: recs) (p d t) h Q R
  | _, _ => False
def vL (E : Env) (T : Nat → ZE) (o : O D) (i : Nat) (inc : List Nat) (h0 : H) (p : D → Tr D → Tr D) (k : FD) (recs : List Rec) (t : Tr D) (Q : Uc) (R : Uk) : Prop :=
  match o with
  | .ok d h => Xm inc h recs = true ∧ VD E T k (.loud i h0 :: recs) (p d t) h Q R
  | _ => False
def vB (E : Env) (T : Nat → ZE) (d : D) (a b : FC) (t : Tr D) (h : H) (Q : Uc) (R : Uk) : Prop :=
  match d with
  | .v (.bool v) => bif v then VP E T a t h Q R else VP E T b t h Q R
  | _ => False
section
variable {d dd : D} {h h' h0 h1 : H} {p : D → Tr D → Tr D} {k : FR} {kd : FD} {t t' : Tr D} {Q : Uc} {R : Uk} {recs : List Rec} {i n : Nat} {inc : List Nat} {cs : List D} {a b : FC} {o o' : O D} {w : String} {r : FR} {rd : FD}
@[congr] theorem VR_congr (ht : t = t') (hh : h = h') : VR E T r t h Q R = VR E T r t' h' Q R := by rw [ht, hh]
@[congr] theorem VD_congr {recs' : List Rec} (hr : recs = recs') (ht : t = t') (hh : h = h') : VD E T rd recs t h Q R = VD E T rd recs' t' h' Q R := by rw [hr, ht, hh]
@[congr] theorem VP_congr (ht : t = t') (hh : h = h') : VP E T a t h Q R = VP E T a t' h' Q R := by rw [ht, hh]
@[congr] theorem vO_congr (ho : o = o') (ht : t = t') : vO E T o p k t Q R = vO E T o' p k t' Q R := by rw [ho, ht]
@[congr] theorem vD_congr {recs' : List Rec} (ho : o = o') (hr : recs = recs') (ht : t = t') : vD E T o p kd recs t Q R = vD E T o' p kd recs' t' Q R := by rw [ho, hr, ht]
@[congr] theorem vRd_congr {recs' : List Rec} {c c' : Option (List D)} {aa aa' : D} (ho : o = o') (hc : c = c') (ha : aa = aa') (hr : recs = recs') (ht : t = t') : vRd E T o c i inc aa p kd recs t Q R = vRd E T o' c' i inc aa' p kd recs' t' Q R := by rw [ho, hc, ha, hr, ht]
@[congr] theorem vL_congr {recs' : List Rec} (ho : o = o') (hh : h0 = h1) (hr : recs = recs') (ht : t = t') : vL E T o i inc h0 p kd recs t Q R = vL E T o' i inc h1 p kd recs' t' Q R := by rw [ho, hh, hr, ht]
@[congr] theorem vB_congr (hd : d = dd) (ht : t = t') (hh : h = h') : vB E T d a b t h Q R = vB E T dd a b t' h' Q R := by rw [hd, ht, hh]
theorem Zof : vO E T (.ok d h) p k t Q R ↔ VR E T k (p d t) h Q R := Iff.rfl
theorem Zoe : vO E T (.panic d h) p k t Q R ↔ R d h := Iff.rfl
theorem Zoh : vD E T (.ok d h) p kd recs t Q R ↔ VD E T kd recs (p d t) h Q R := Iff.rfl
theorem Ziu {aa : D} : vRd E T (.ok d h) (some cs) i inc aa p kd recs t Q R ↔ XP inc aa cs recs = true ∧ VD E T kd (.rd i aa cs :: recs) (p d t) h Q R := Iff.rfl
theorem Zog : vL E T (.ok d h) i inc h0 p kd recs t Q R ↔ Xm inc h recs = true ∧ VD E T kd (.loud i h0 :: recs) (p d t) h Q R := Iff.rfl
theorem Zxo : vB E T (.v (.bool true)) a b t h Q R ↔ VP E T a t h Q R := Iff.rfl
theorem Zxp : vB E T (.v (.bool false)) a b t h Q R ↔ VP E T b t h Q R := Iff.rfl
theorem Zjc {Q : Uc} : Lseq E T b Q R .normal t h ↔ VP E T b t h Q R := Iff.rfl
theorem Zjb {Q : Uc} : Lseq E T b Q R .ret t h ↔ Q .ret t h := Iff.rfl
theorem Zjd {Q : Uc} : Lseq E T b Q R (.exit i) t h ↔ Q (.exit i) t h := Iff.rfl
theorem Zpw {res : Tr D → H → O D} {Q : D → H → Prop} : Zze res Q .normal t h ↔ sC (res t h) Q := Iff.rfl
theorem Zpv {res : Tr D → H → O D} {Q : D → H → Prop} : Zze res Q .ret t h ↔ sC (res t h) Q := Iff.rfl
theorem Xx {f : VH} (hf : ∀ c, f E c t h = f E Yb t h) : VR E T (fo f p k) t h Q R ↔ vO E T (f E Yb t h) p k t Q R := by
  constructor
  · rintro ⟨x, ⟨N, hN⟩, hq⟩
    cases ho : f E Yb t h with
    | ok d h1 =>
      refine ⟨x, ⟨N, fun n hn => ?_⟩, hq⟩
      have := hN n hn
      simp only [fo, hf, ho] at this
      exact this
    | panic d h1 =>
      have := hN N (Nat.le_refl _)
      simp only [fo, hf, ho] at this
      subst this
      exact hq
    | fail w =>
      have := hN N (Nat.le_refl _)
      simp only [fo, hf, ho] at this
      subst this
      exact hq
  · intro hs
    cases ho : f E Yb t h with
    | ok d h1 =>
      rw [ho] at hs
      obtain ⟨x, hr, hq⟩ := hs
      exact ⟨x, Z8l (fun c => (hf c).trans ho) hr, hq⟩
    | panic d h1 =>
      rw [ho] at hs
      exact ⟨.panic d h1, ⟨0, fun n _ => by simp only [fo, hf, ho]⟩, hs⟩
    | fail w => rw [ho] at hs; exact hs.elim
theorem Zii : VR E T Z2 t h Q R ↔ Q .normal t h := by
  constructor
  · rintro ⟨x, ⟨N, hN⟩, hq⟩
    have := hN N (Nat.le_refl _)
    subst this
    exact hq
  · intro hq; exact ⟨_, Z4p, hq⟩
def vG (E : Env) (T : Nat → ZE) (b : Bool) (f : VH) (p : D → Tr D → Tr D) (k : FR) (t : Tr D) (h : H) (Q : Uc) (R : Uk) : Prop := bif b then VR E T (fo f p k) t h Q R else VR E T k (p Zj t) h Q R
@[congr] theorem vG_congr {b b' : Bool} {f : VH} (hb : b = b') (ht : t = t') (hh : h = h') : vG E T b f p k t h Q R = vG E T b' f p k t' h' Q R := by rw [hb, ht, hh]
theorem Zxm {f : VH} : vG E T true f p k t h Q R ↔ VR E T (fo f p k) t h Q R := Iff.rfl
theorem Zxn {f : VH} : vG E T false f p k t h Q R ↔ VR E T k (p Zj t) h Q R := Iff.rfl
theorem Zig {g : Tr D → D} {w : Bool} {f : VH} : VR E T (Zr g w f p k) t h Q R ↔ vG E T (wanted (g t) w) f p k t h Q R := by
  unfold vG VR Zxa
  cases hw : wanted (g t) w <;> simp only [Zr, hw, cond_true, cond_false]
theorem Ve {f : VH} (hf : ∀ c, f E c t h = f E Yb t h) : VD E T (Zf f p kd) recs t h Q R ↔ vD E T (f E Yb t h) p kd recs t Q R := by
  constructor
  · rintro ⟨x, ⟨N, hN⟩, hq⟩
    cases ho : f E Yb t h with
    | ok d h1 =>
      refine ⟨x, ⟨N, fun n hn => ?_⟩, hq⟩
      have := hN n hn
      simp only [Zf, hf, ho] at this
      exact this
    | panic d h1 =>
      have := hN N (Nat.le_refl _)
      simp only [Zf, hf, ho] at this
      subst this
      exact hq
    | fail w =>
      have := hN N (Nat.le_refl _)
      simp only [Zf, hf, ho] at this
      subst this
      exact hq
  · intro hs
    cases ho : f E Yb t h with
    | ok d h1 =>
      rw [ho] at hs
      obtain ⟨x, hr, hq⟩ := hs
      exact ⟨x, Z8m (fun c => (hf c).trans ho) hr, hq⟩
    | panic d h1 => rw [ho] at hs; exact hs.elim
    | fail w => rw [ho] at hs; exact hs.elim
theorem Zis : VD E T Zw recs t h Q R ↔ Q .normal t h := by
  constructor
  · rintro ⟨x, ⟨N, hN⟩, hq⟩
    have := hN N (Nat.le_refl _)
    subst this
    exact hq
  · intro hq; exact ⟨_, Z4q, hq⟩
theorem vd_rd {g : Tr D → D} {f : VH} (hf : ∀ c, f E c t h = f E Yb t h) :
    VD E T (Xv i inc n g f p kd) recs t h Q R ↔ vRd E T (f E Yb t h) (Zk h (g t) n) i inc (g t) p kd recs t Q R := by
  constructor
  · rintro ⟨x, ⟨N, hN⟩, hq⟩
    have h0 := hN N (Nat.le_refl _)
    cases ho : f E Yb t h with
    | ok d h1 =>
      cases hc : Zk h (g t) n with
      | none => simp only [Xv, Zau, Zeq, Z6u, hf, ho, hc] at h0; subst h0; exact hq
      | some cs =>
        cases hb : XP inc (g t) cs recs with
        | false => simp only [Xv, Zau, Zeq, Z6u, hf, ho, hc, hb, cond_false] at h0; subst h0; exact hq.elim
        | true =>
          refine ⟨hb, x, ⟨N, fun n hn => ?_⟩, hq⟩
          have := hN n hn
          simp only [Xv, Zau, Zeq, Z6u, hf, ho, hc, hb, cond_true] at this
          exact this
    | panic d h1 => simp only [Xv, Zau, Zeq, Z6u, hf, ho] at h0; subst h0; exact hq
    | fail w => simp only [Xv, Zau, Zeq, Z6u, hf, ho] at h0; subst h0; exact hq
  · intro hs
    cases ho : f E Yb t h with
    | ok d h1 =>
      rw [ho] at hs
      cases hc : Zk h (g t) n with
      | none => rw [hc] at hs; exact hs.elim
      | some cs =>
        rw [hc] at hs
        obtain ⟨hb, x, hr, hq⟩ := hs
        exact ⟨x, Z12 (fun c => (hf c).trans ho) hc hb hr, hq⟩
    | panic d h1 => rw [ho] at hs; exact hs.elim
    | fail w => rw [ho] at hs; exact hs.elim
theorem Z27 {f : VH} (hf : ∀ c, f E c t h = f E Yb t h) :
    VD E T (Yu i inc f p kd) recs t h Q R ↔ vL E T (f E Yb t h) i inc h p kd recs t Q R := by
  constructor
  · rintro ⟨x, ⟨N, hN⟩, hq⟩
    have h0 := hN N (Nat.le_refl _)
    cases ho : f E Yb t h with
    | ok d h1 =>
      cases hb : Xm inc h1 recs with
      | false => simp only [Yu, Zdh, hf, ho, hb, cond_false] at h0; subst h0; exact hq.elim
      | true =>
        refine ⟨hb, x, ⟨N, fun n hn => ?_⟩, hq⟩
        have := hN n hn
        simp only [Yu, Zdh, hf, ho, hb, cond_true] at this
        exact this
    | panic d h1 => simp only [Yu, Zdh, hf, ho] at h0; subst h0; exact hq
    | fail w => simp only [Yu, Zdh, hf, ho] at h0; subst h0; exact hq
  · intro hs
    cases ho : f E Yb t h with
    | ok d h1 =>
      rw [ho] at hs
      obtain ⟨hb, x, hr, hq⟩ := hs
      exact ⟨x, Z13 (fun c => (hf c).trans ho) hb hr, hq⟩
    | panic d h1 => rw [ho] at hs; exact hs.elim
    | fail w => rw [ho] at hs; exact hs.elim
theorem ZO {f : Nat} {gs : List (Tr D → D)} (hc : VC E T f (Zkv gs t) h (fun d h' => VR E T k (p d t) h' Q R) R) : VR E T (fo (Z9 f gs) p k) t h Q R := by
  obtain ⟨o, ⟨M, hM⟩, ho⟩ := hc
  cases o with
  | ok d h1 =>
    obtain ⟨x, hr, hq⟩ := ho
    exact ⟨x, Z11 ⟨M, hM⟩ hr, hq⟩
  | panic d h1 => exact ⟨.panic d h1, ⟨M, fun n hn => by show O.casesOn (motive := fun _ => XT) (Xr E T n f (Zkv gs t) h) _ _ _ = _; rw [hM n hn]⟩, ho⟩
  | fail w => exact ho.elim
theorem ZS {f : Nat} {gs : List (Tr D → D)} (hc : VC E T f (Zkv gs t) h (fun d h' => Xm inc h' recs = true ∧ VD E T kd (.loud i h :: recs) (p d t) h' Q R) Zc2) : VD E T (Yu i inc (Z9 f gs) p kd) recs t h Q R := by
  obtain ⟨o, he, ho⟩ := hc
  cases o with
  | ok d h1 =>
    obtain ⟨hb, x, hr, hq⟩ := ho
    exact ⟨x, Z14 he hb hr, hq⟩
  | panic d h1 => exact ho.elim
  | fail w => exact ho.elim
theorem ZA (hq : Q .normal t h) : VP E T Z8 t h Q R := ⟨_, Zrr, hq⟩
theorem ZB (hq : Q (.exit i) t h) : VP E T (ZL i) t h Q R := ⟨_, Zrt, hq⟩
theorem ZQ (hq : Q .ret t h) : VP E T Zb t h Q R := ⟨_, Zvc, hq⟩
theorem ZR (hq : VR E T r t h Q R) : VP E T (Z1 r) t h Q R := by
  obtain ⟨x, hr, hq⟩ := hq
  exact ⟨_, Z4o hr, hq⟩
theorem ZC (hq : VD E T rd [] t h Q R) : VP E T (Zv rd) t h Q R := by
  obtain ⟨x, hr, hq⟩ := hq
  exact ⟨_, Z10 hr, hq⟩
theorem Zs3 {a b : FC} (ha : Ub E T a t h (.panic d h1)) : Ub E T (Z0 a b) t h (.panic d h1) := by
  obtain ⟨N, hN⟩ := ha
  refine ⟨N + 1, fun n m hn hm => ?_⟩
  cases m with
  | zero => omega
  | succ m =>
    show XT.casesOn (motive := fun _ => XT) (a E (Xr E T n) m t h) _ _ _ = _
    rw [hN n m (by omega) (by omega)]
theorem Zoy {a : FC} {id : Nat} (ha : Ub E T a t h (.panic d h1)) : Ub E T (Zc id a) t h (.panic d h1) := by
  obtain ⟨N, hN⟩ := ha
  refine ⟨N + 1, fun n m hn hm => ?_⟩
  cases m with
  | zero => omega
  | succ m =>
    show XT.casesOn (motive := fun _ => XT) (a E (Xr E T n) m t h) _ _ _ = _
    rw [hN n m (by omega) (by omega)]
theorem Zhq {a : FC} (ha : Ub E T a t h (.panic d h1)) : Ub E T (ZI a) t h (.panic d h1) := by
  obtain ⟨N, hN⟩ := ha
  refine ⟨N + 1, fun n m hn hm => ?_⟩
  cases m with
  | zero => omega
  | succ m =>
    simp only [Zfi]
    rw [hN n m (by omega) (by omega)]
theorem ZP (hq : VP E T a t h (Lseq E T b Q R) R) : VP E T (Z0 a b) t h Q R := by
  obtain ⟨x, hr, hq⟩ := hq
  cases x with
  | out e t1 h1 => cases e with
    | normal =>
      obtain ⟨x, hr', hq⟩ := hq
      exact ⟨_, Zvb hr hr', hq⟩
    | exit i => exact ⟨_, Za4 hr trivial, hq⟩
    | ret => exact ⟨_, Za4 hr trivial, hq⟩
  | panic d h1 => exact ⟨_, Zs3 hr, hq⟩
  | fail w => exact hq.elim
theorem Zt {id : Nat} (hq : VP E T a t h (Z2v id Q) R) : VP E T (Zc id a) t h Q R := by
  obtain ⟨x, hr, hq⟩ := hq
  cases x with
  | out e t1 h1 => exact ⟨_, Zoz hr, hq⟩
  | panic d h1 => exact ⟨_, Zoy hr, hq⟩
  | fail w => exact hq.elim
theorem ZD {g : Tr D → D} (hq : vB E T (g t) a b t h Q R) : VP E T (Z7 g a b) t h Q R := by
  unfold vB at hq
  split at hq
  · rename_i v hv
    cases v with
    | true =>
      obtain ⟨x, hr, hq⟩ := hq
      exact ⟨_, Zg9 true hv hr, hq⟩
    | false =>
      obtain ⟨x, hr, hq⟩ := hq
      exact ⟨_, Zg9 false hv hr, hq⟩
  · exact hq.elim
def Zsq (I : Nat → Tr D → H → Prop) (n : Nat) (Q : Uc) : Uc := fun e t h =>
  match e with
  | .normal => ∃ m, m < n ∧ I m t h
  | .exit i => Q (.exit i) t h
  | .ret => Q .ret t h
theorem Zfc {I : Nat → Tr D → H → Prop} {Q : Uc} : Zsq I n Q .normal t h ↔ ∃ m, m < n ∧ I m t h := Iff.rfl
theorem Zfd {I : Nat → Tr D → H → Prop} {Q : Uc} : Zsq I n Q (.exit i) t h ↔ Q (.exit i) t h := Iff.rfl
theorem Zfb {I : Nat → Tr D → H → Prop} {Q : Uc} : Zsq I n Q .ret t h ↔ Q .ret t h := Iff.rfl
theorem Zzi (I : Nat → Tr D → H → Prop) {n : Nat} {t : Tr D} {h : H} (hi : I n t h) (hb : ∀ n t h, I n t h → VP E T a t h (Zsq I n Q) R) : VP E T (ZI a) t h Q R := by
  induction n using Nat.strongRecOn generalizing t h with
  | ind n ih =>
    obtain ⟨x, hr, hq⟩ := hb n t h hi
    cases x with
    | out e t1 h1 => cases e with
      | normal =>
        obtain ⟨m, hm, hq⟩ := hq
        obtain ⟨x, hr', hq⟩ := ih m hm hq
        exact ⟨_, Zrs hr hr', hq⟩
      | exit i => exact ⟨_, UR hr trivial, hq⟩
      | ret => exact ⟨_, UR hr trivial, hq⟩
    | panic d h1 => exact ⟨_, Zhq hr, hq⟩
    | fail w => exact hq.elim
theorem Z25 (I : Tr D → H → Nat → Tr D → H → Prop) (n : Nat) (hi : I t h n t h) (hb : ∀ n t1 h1, I t h n t1 h1 → VP E T a t1 h1 (Zsq (I t h) n Q) R) : VP E T (ZI a) t h Q R := Zzi (I t h) hi hb
theorem YK {f : Nat} {ss : List (D → Tr D → Tr D)} {res : Tr D → H → O D} {body : FC} {args : List D} {Q : D → H → Prop} (hT : T f = Y5 ss res body) (hq : VP E T body (Zc7 0 ss args .nil) h (Zze res Q) R) : VC E T f args h Q R := by
  obtain ⟨x, hr, hq⟩ := hq
  have fin : ∀ e t1 h1, ends e → Ub E T body (Zc7 0 ss args .nil) h (.out e t1 h1) → sC (res t1 h1) Q → VC E T f args h Q R := by
    intro e t1 h1 he hr hq
    cases ho : res t1 h1 with
    | ok d h2 => rw [ho] at hq; exact ⟨.ok d h2, ev_fn hT hr he ho, hq⟩
    | panic d h2 => rw [ho] at hq; exact hq.elim
    | fail w => rw [ho] at hq; exact hq.elim
  cases x with
  | out e t1 h1 => cases e with
    | normal => exact fin .normal _ _ trivial hr hq
    | exit i => exact hq.elim
    | ret => exact fin .ret _ _ trivial hr hq
  | panic d h1 =>
    obtain ⟨N, hN⟩ := hr
    refine ⟨.panic d h1, ⟨N + 1, fun n hn => ?_⟩, hq⟩
    cases n with
    | zero => omega
    | succ n =>
      show T f E n (Xr E T n) args h = _
      rw [hT]
      show XT.casesOn (motive := fun _ => O D) (body E (Xr E T n) n (Zc7 0 ss args .nil) h) _ _ _ = _
      rw [hN n n (by omega) (by omega)]
  | fail w => exact hq.elim
theorem Zxj {f : Nat} {g : List D → H → O D} {args : List D} {Q : D → H → Prop} (hT : T f = Wv g) (hq : VO Q R (g args h)) : VC E T f args h Q R := ⟨_, ev_lib hT rfl, hq⟩
end
variable {p : D → Tr D → Tr D} {k : FR} {kd : FD} {recs : List Rec} {t : Tr D} {h : H} {Q : Uc} {R : Uk} {g g1 g2 g3 : Tr D → D} {i : Nat} {inc : List Nat}
theorem Zny : VR E T (fo (Yf g) p k) t h Q R ↔ VR E T k (p (g t) t) h Q R := Xx fun _ => rfl
theorem Zib : VR E T (fo (u1 V6 g) p k) t h Q R ↔ vO E T (Zgk (g t) h) p k t Q R := by rw [← Zzz (E := E) (c := Yb) (a := act t)]; exact Xx fun _ => rfl
theorem Zn1 {n : Nat} : VR E T (fo (u1 (Zcq n) g) p k) t h Q R ↔ vO E T (oFa n (g t) h) p k t Q R := by rw [← Z40 (E := E) (c := Yb) (a := act t)]; exact Xx fun _ => rfl
theorem Zh9 : VR E T (fo (u1 Wt g) p k) t h Q R ↔ vO E T (Z5i (g t) h) p k t Q R := by rw [← Zzy (E := E) (c := Yb) (a := act t)]; exact Xx fun _ => rfl
theorem Zih {n : Nat} : VR E T (fo (u1 (Zmm n) g) p k) t h Q R ↔ vO E T (Zye n (g t) h) p k t Q R := by rw [← Zz3 (E := E) (c := Yb) (a := act t)]; exact Xx fun _ => rfl
theorem Zh8 : VR E T (fo (u1 (Zo9 .not) g) p k) t h Q R ↔ vO E T (oNot E (g t) h) p k t Q R := Xx fun _ => rfl
theorem Zie {n : Nat} : VR E T (fo (u2 (Vw n) g1 g2) p k) t h Q R ↔ vO E T (Zgl n (g1 t) (g2 t) h) p k t Q R := by rw [← Zz0 (E := E) (c := Yb) (a := act t)]; exact Xx fun _ => rfl
theorem Znx {n : Nat} : VR E T (fo (uo (Zav n) g1 none (some g2)) p k) t h Q R ↔ vO E T (oSl n (g1 t) (g2 t) h) p k t Q R := by rw [← Z4x (E := E) (c := Yb) (a := act t)]; exact Xx fun _ => rfl
theorem Zid : VR E T (fo (ZJ g) p k) t h Q R ↔ vO E T (Z0d (Zk h (g t) 1) h) p k t Q R := by rw [← Z56 (E := E)]; exact Xx fun _ => rfl
theorem Zic {n : Nat} : VR E T (fo (Zi n g) p k) t h Q R ↔ vO E T (Z0c (Zk h (g t) n) h) p k t Q R := by rw [← Z55 (E := E)]; exact Xx fun _ => rfl
theorem Znw {n : Nat} : VR E T (fo (Ze n g1 g2) p k) t h Q R ↔ vO E T (oSt n (g1 t) (g2 t) h) p k t Q R := by rw [← Z54 (E := E) (c := Yb)]; exact Xx fun _ => rfl
theorem Zbi {ty : TypeId} {z : List D} : VR E T (fo (Za ty z) p k) t h Q R ↔ VR E T k (p (.ptr h.next 0) t) (WJ h (.cells ty z)) Q R := Xx fun _ => rfl
theorem Zij {ty : TypeId} : VR E T (fo (Ye ty g) p k) t h Q R ↔ VR E T k (p (.ptr h.next 0) t) (WJ h (.cells ty (g t).cells)) Q R := by rw [← Zbc]; exact Xx fun _ => rfl
theorem Zbg : VR E T (fo Zdi p k) t h Q R ↔ VR E T k (p (.map h.next) t) (WJ h (.map [])) Q R := Xx fun _ => rfl
theorem Zif {f : IntKind → Int → Int → D} {op : BinOp} {ty : TypeId} {ox oy : Operand} : VR E T (fo (Zd f op ty ox oy g1 g2) p k) t h Q R ↔ vO E T (Zng E f op ty ox oy (g1 t) (g2 t) h) p k t Q R := by rw [← Z44 (E := E) (c := Yb)]; exact Xx fun _ => rfl
theorem Zef {op : BinOp} {ty : TypeId} {ox oy : Operand} : VR E T (fo (VI op ty ox oy g1 g2) p k) t h Q R ↔ vO E T (Uu (Zcr E op ty ox oy (g1 t) (g2 t)) h "bin") p k t Q R := Xx fun _ => rfl
theorem Ziq {f : IntKind → Int → Int → D} {op : BinOp} {ty : TypeId} {ox oy : Operand} : VD E T (Zf (Zd f op ty ox oy g1 g2) p kd) recs t h Q R ↔ vD E T (Zng E f op ty ox oy (g1 t) (g2 t) h) p kd recs t Q R := by rw [← Z44 (E := E) (c := Yb)]; exact Ve fun _ => rfl
theorem Zeg : VR E T (fo (Zu g1 g2 g3) p k) t h Q R ↔ vO E T (Z0a (g1 t) (g2 t) (g3 t) h) p k t Q R := by rw [← Z0k (E := E) (c := Yb)]; exact Xx fun _ => rfl
theorem Zbh {z : List D} {ps : List (Nat × Nat × (Tr D → D))} : VR E T (fo (Zy z ps) p k) t h Q R ↔ vO E T (Zyf (U5 t z ps) h) p k t Q R := by rw [← Zfj]; exact Xx fun _ => rfl
theorem Vh {e : TypeId} {len : Nat} {z : List D} {ps : List (Nat × Nat × (Tr D → D))} : VR E T (fo (Zn e len z ps) p k) t h Q R ↔ vO E T (Zpn (U5 t z ps) e len h) p k t Q R := by rw [← Zfj]; exact Xx fun _ => rfl
theorem Zeh {z : D} : VR E T (fo (u2 (fun x k => Zde 0 z x k true) g1 g2) p k) t h Q R ↔ vO E T (oLook (E := E) z (g1 t) (g2 t) h) p k t Q R := Xx fun _ => rfl
theorem Znz {e : TypeId} {size bytes : Nat} {z : List D} : VR E T (fo (u2 (Zbq e size bytes z) g1 g2) p k) t h Q R ↔ vO E T (oMk (E := E) e size bytes z (g1 t) (g2 t) h) p k t Q R := Xx fun _ => rfl
theorem Zil {e : TypeId} {size bytes : Nat} : VR E T (fo (u2 (YE e size bytes) g1 g2) p k) t h Q R ↔ vO E T (Zdv e size bytes (g1 t) (g2 t) h) p k t Q R := by rw [← Zz4 (E := E) (c := Yb) (a := act t)]; exact Xx fun _ => rfl
theorem Zn5 : VD E T (Zf (Yf g) p kd) recs t h Q R ↔ VD E T kd recs (p (g t) t) h Q R := Ve fun _ => rfl
theorem Zoa {n : Nat} : VD E T (Zf (u1 (Zcq n) g) p kd) recs t h Q R ↔ vD E T (oFa n (g t) h) p kd recs t Q R := by rw [← Z40 (E := E) (c := Yb) (a := act t)]; exact Ve fun _ => rfl
theorem Zim : VD E T (Zf (u1 Wt g) p kd) recs t h Q R ↔ vD E T (Z5i (g t) h) p kd recs t Q R := by rw [← Zzy (E := E) (c := Yb) (a := act t)]; exact Ve fun _ => rfl
theorem Zir {n : Nat} : VD E T (Zf (u1 (Zmm n) g) p kd) recs t h Q R ↔ vD E T (Zye n (g t) h) p kd recs t Q R := by rw [← Zz3 (E := E) (c := Yb) (a := act t)]; exact Ve fun _ => rfl
theorem Zip {n : Nat} : VD E T (Zf (u2 (Vw n) g1 g2) p kd) recs t h Q R ↔ vD E T (Zgl n (g1 t) (g2 t) h) p kd recs t Q R := by rw [← Zz0 (E := E) (c := Yb) (a := act t)]; exact Ve fun _ => rfl
theorem Zbk {ty : TypeId} {z : List D} : VD E T (Zf (Za ty z) p kd) recs t h Q R ↔ VD E T kd recs (p (.ptr h.next 0) t) (WJ h (.cells ty z)) Q R := Ve fun _ => rfl
theorem Zbj {z : List D} {ps : List (Nat × Nat × (Tr D → D))} : VD E T (Zf (Zy z ps) p kd) recs t h Q R ↔ vD E T (Zyf (U5 t z ps) h) p kd recs t Q R := by rw [← Zfj]; exact Ve fun _ => rfl
theorem Vi {e : TypeId} {len : Nat} {z : List D} {ps : List (Nat × Nat × (Tr D → D))} : VD E T (Zf (Zn e len z ps) p kd) recs t h Q R ↔ vD E T (Zpn (U5 t z ps) e len h) p kd recs t Q R := by rw [← Zfj]; exact Ve fun _ => rfl
theorem Zio {n : Nat} : VD E T (Xv i inc n g1 (ZJ g) p kd) recs t h Q R ↔ vRd E T (Z0d (Zk h (g t) 1) h) (Zk h (g1 t) n) i inc (g1 t) p kd recs t Q R := by rw [← Z56 (E := E)]; exact vd_rd fun _ => rfl
theorem Zin {n m : Nat} : VD E T (Xv i inc n g1 (Zi m g) p kd) recs t h Q R ↔ vRd E T (Z0c (Zk h (g t) m) h) (Zk h (g1 t) n) i inc (g1 t) p kd recs t Q R := by rw [← Z55 (E := E)]; exact vd_rd fun _ => rfl
theorem Zn2 {n : Nat} : VD E T (Yu i inc (Ze n g1 g2) p kd) recs t h Q R ↔ vL E T (oSt n (g1 t) (g2 t) h) i inc h p kd recs t Q R := by rw [← Z54 (E := E) (c := Yb)]; exact Z27 fun _ => rfl
theorem Zek : VD E T (Yu i inc (u3 (Zbp 0) g1 g2 g3) p kd) recs t h Q R ↔ vL E T (oMset (E := E) (g1 t) (g2 t) (g3 t) h) i inc h p kd recs t Q R := Z27 fun _ => rfl
theorem Zit {e : TypeId} {size bytes : Nat} : VD E T (Yu i inc (u2 (YE e size bytes) g1 g2) p kd) recs t h Q R ↔ vL E T (Zdv e size bytes (g1 t) (g2 t) h) i inc h p kd recs t Q R := by rw [← Zz4 (E := E) (c := Yb) (a := act t)]; exact Z27 fun _ => rfl
theorem Zik : VR E T (fo (u1 Zkd g) p k) t h Q R ↔ vO E T (Z5n (g t) h) p k t Q R := Xx fun _ => rfl
theorem Zei : VR E T (fo (u1 Va g) p k) t h Q R ↔ vO E T (Z0b (g t) h) p k t Q R := by rw [← Zvm (E := E) (c := Yb) (a := act t)]; exact Xx fun _ => rfl
theorem Zbf {lo hi : Option (Tr D → D)} : VR E T (fo (XQ g lo hi) p k) t h Q R ↔ vO E T (Zpj (lo.map (· t)) (hi.map (· t)) (g t) h) p k t Q R := by
  rw [← Zd0 (E := E) Yb]
  exact Xx fun c => by rw [Zd0, Zd0]
def Z0f (kk : IntKind) (d : D) (h : H) : O D :=
  match d with
  | .int _ n => .ok (.int kk (Zf2 kk n)) h
  | _ => .fail "cint"
theorem Z0o {E : Env} {kk : IntKind} {g : Tr D → D} {t : Tr D} {h : H} {c : Call} : Xq kk g E c t h = Z0f kk (g t) h := by
  unfold Xq
  cases g t <;> rfl
theorem Zej {kk : IntKind} : VR E T (fo (Xq kk g) p k) t h Q R ↔ vO E T (Z0f kk (g t) h) p k t Q R := by rw [← Z0o (E := E) (c := Yb)]; exact Xx fun _ => rfl
theorem Zel {kk : IntKind} : VD E T (Zf (Xq kk g) p kd) recs t h Q R ↔ vD E T (Z0f kk (g t) h) p kd recs t Q R := by rw [← Z0o (E := E) (c := Yb)]; exact Ve fun _ => rfl
theorem Zfa {kk ki : IntKind} {n : Int} : Z0f kk (.int ki n) h = .ok (.int kk (Zf2 kk n)) h := rfl
end
end
end Go.Abs
