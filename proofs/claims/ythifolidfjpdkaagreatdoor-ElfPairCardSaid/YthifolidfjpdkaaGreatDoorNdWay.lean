/- The quick code, run by rules: calls that may panic; walks that do not look ahead. -/
import Derived.Test.YthifolidfjpdkaaGreatDoorNdSym
set_option linter.unusedVariables false
set_option linter.unusedSimpArgs false
namespace Go.Abs
noncomputable section
section
variable {E : Env} {T : Nat → ZV}
abbrev ZM := D → H → Prop
def VX (Q : UU) (R : ZM) : XT → Prop
  | .out e t h => Q e t h
  | .panic d h => R d h
  | .fail _ => False
def VO (Q : D → H → Prop) (R : ZM) : O D → Prop
  | .ok d h => Q d h
  | .panic d h => R d h
  | .fail _ => False
def VP (E : Env) (T : Nat → ZV) (c : FC) (t : Tr D) (h : H) (Q : UU) (R : ZM) : Prop := ∃ x,Zbk E T c t h x ∧ VX Q R x
def VR (E : Env) (T : Nat → ZV) (r : FR) (t : Tr D) (h : H) (Q : UU) (R : ZM) : Prop := ∃ x,Zwa E T r t h x ∧ VX Q R x
def VD (E : Env) (T : Nat → ZV) (r : FD) (recs : List Rec) (t : Tr D) (h : H) (Q : UU) (R : ZM) : Prop := ∃ x,Zl8 E T r recs t h x ∧ VX Q R x
def VC (E : Env) (T : Nat → ZV) (f : Nat) (args : List D) (h : H) (Q : D → H → Prop) (R : ZM) : Prop := ∃ o,Ev E T f args h o ∧ VO Q R o
theorem VC.mono {f : Nat} {args : List D} {h : H} {Q Q' : D → H → Prop} {R R' : ZM} (hc : VC E T f args h Q R) (hq : ∀ d h',Q d h' → Q' d h') (hr : ∀ d h',R d h' → R' d h') : VC E T f args h Q' R' := by
  obtain ⟨o,he,h1⟩ := hc
  refine ⟨o,he, ?_⟩
  cases o with
  | ok d h' => exact hq _ _ h1
  | panic d h' => exact hr _ _ h1
  | fail w => exact h1
def Zd8 : ZM := fun _ _ => False
theorem VP.mono {c : FC} {t : Tr D} {h : H} {Q Q' : UU} {R R' : ZM} (hc : VP E T c t h Q R) (hq : ∀ e t' h',Q e t' h' → Q' e t' h') (hr : ∀ d h',R d h' → R' d h') : VP E T c t h Q' R' := by
  obtain ⟨x,he,h1⟩ := hc
  refine ⟨x,he, ?_⟩
  cases x with
  | out e t' h' => exact hq _ _ _ h1
  | panic d h' => exact hr _ _ h1
  | fail w => exact h1
def Z9l (E : Env) (T : Nat → ZV) (b : FC) (Q : UU) (R : ZM) : UU := fun e t h =>
  match e with
  | .normal => VP E T b t h Q R
  | .exit i => Q (.exit i) t h
  | .ret => Q .ret t h
def Lfn (res : Tr D → H → O D) (Q : D → H → Prop) : UU := fun e t h =>
  match e with
  | .exit _ => False
  | _ => sC (res t h) Q
def vO (E : Env) (T : Nat → ZV) (o : O D) (p : D → Tr D → Tr D) (k : FR) (t : Tr D) (Q : UU) (R : ZM) : Prop :=
  match o with
  | .ok d h => VR E T k (p d t) h Q R
  | .panic d h => R d h
  | .fail _ => False
def vD (E : Env) (T : Nat → ZV) (o : O D) (p : D → Tr D → Tr D) (k : FD) (recs : List Rec) (t : Tr D) (Q : UU) (R : ZM) : Prop :=
  match o with
  | .ok d h => VD E T k recs (p d t) h Q R
  | _ => False
def vRd (E : Env) (T : Nat → ZV) (o : O D) (c : Option (List D)) (i : Nat) (inc : List Nat) (a : D) (p : D → Tr D → Tr D) (k : FD) (recs : List Rec) (t : Tr D) (Q : UU) (R : ZM) : Prop :=
  match o,c with
  | .ok d h,some cs => XA inc a cs recs = true ∧ VD E T k (.rd i a cs :: recs) (p d t) h Q R
  | _,_ => False
def vL (E : Env) (T : Nat → ZV) (o : O D) (i : Nat) (inc : List Nat) (h0 : H) (p : D → Tr D → Tr D) (k : FD) (recs : List Rec) (t : Tr D) (Q : UU) (R : ZM) : Prop :=
  match o with
  | .ok d h => YJ inc h recs = true ∧ VD E T k (.loud i h0 :: recs) (p d t) h Q R
  | _ => False
def vB (E : Env) (T : Nat → ZV) (d : D) (a b : FC) (t : Tr D) (h : H) (Q : UU) (R : ZM) : Prop :=
  match d with
  | .v (.bool v) => bif v then VP E T a t h Q R else VP E T b t h Q R
  | _ => False
section
variable {d dd : D} {h h' h0 h1 : H} {p : D → Tr D → Tr D} {k : FR} {kd : FD} {t t' : Tr D} {Q : UU} {R : ZM} {recs : List Rec} {i n : Nat} {inc : List Nat} {cs : List D} {a b : FC} {o o' : O D} {w : String} {r : FR} {rd : FD}
@[congr] theorem VR_congr (ht : t = t') (hh : h = h') : VR E T r t h Q R = VR E T r t' h' Q R := by rw [ht,hh]
@[congr] theorem VD_congr {recs' : List Rec} (hr : recs = recs') (ht : t = t') (hh : h = h') : VD E T rd recs t h Q R = VD E T rd recs' t' h' Q R := by rw [hr,ht,hh]
@[congr] theorem VP_congr (ht : t = t') (hh : h = h') : VP E T a t h Q R = VP E T a t' h' Q R := by rw [ht,hh]
@[congr] theorem vO_congr (ho : o = o') (ht : t = t') : vO E T o p k t Q R = vO E T o' p k t' Q R := by rw [ho,ht]
@[congr] theorem vD_congr {recs' : List Rec} (ho : o = o') (hr : recs = recs') (ht : t = t') : vD E T o p kd recs t Q R = vD E T o' p kd recs' t' Q R := by rw [ho,hr,ht]
@[congr] theorem vRd_congr {recs' : List Rec} {c c' : Option (List D)} {aa aa' : D} (ho : o = o') (hc : c = c') (ha : aa = aa') (hr : recs = recs') (ht : t = t') : vRd E T o c i inc aa p kd recs t Q R = vRd E T o' c' i inc aa' p kd recs' t' Q R := by rw [ho,hc,ha,hr,ht]
@[congr] theorem vL_congr {recs' : List Rec} (ho : o = o') (hh : h0 = h1) (hr : recs = recs') (ht : t = t') : vL E T o i inc h0 p kd recs t Q R = vL E T o' i inc h1 p kd recs' t' Q R := by rw [ho,hh,hr,ht]
@[congr] theorem vB_congr (hd : d = dd) (ht : t = t') (hh : h = h') : vB E T d a b t h Q R = vB E T dd a b t' h' Q R := by rw [hd,ht,hh]
theorem Zc7 : vO E T (.ok d h) p k t Q R ↔ VR E T k (p d t) h Q R := Iff.rfl
theorem Zau : vO E T (.panic d h) p k t Q R ↔ R d h := Iff.rfl
theorem Zc9 : vD E T (.ok d h) p kd recs t Q R ↔ VD E T kd recs (p d t) h Q R := Iff.rfl
theorem Uw {aa : D} : vRd E T (.ok d h) (some cs) i inc aa p kd recs t Q R ↔ XA inc aa cs recs = true ∧ VD E T kd (.rd i aa cs :: recs) (p d t) h Q R := Iff.rfl
theorem Zc8 : vL E T (.ok d h) i inc h0 p kd recs t Q R ↔ YJ inc h recs = true ∧ VD E T kd (.loud i h0 :: recs) (p d t) h Q R := Iff.rfl
theorem Zir : vB E T (.v (.bool true)) a b t h Q R ↔ VP E T a t h Q R := Iff.rfl
theorem Zis : vB E T (.v (.bool false)) a b t h Q R ↔ VP E T b t h Q R := Iff.rfl
theorem UG {Q : UU} : Z9l E T b Q R .normal t h ↔ VP E T b t h Q R := Iff.rfl
theorem UF {Q : UU} : Z9l E T b Q R .ret t h ↔ Q .ret t h := Iff.rfl
theorem UH {Q : UU} : Z9l E T b Q R (.exit i) t h ↔ Q (.exit i) t h := Iff.rfl
theorem Zdh {res : Tr D → H → O D} {Q : D → H → Prop} : Lfn res Q .normal t h ↔ sC (res t h) Q := Iff.rfl
theorem Zdg {res : Tr D → H → O D} {Q : D → H → Prop} : Lfn res Q .ret t h ↔ sC (res t h) Q := Iff.rfl
theorem Xc {f : Zcz} (hf : ∀ c,f E c t h = f E Zu t h) : VR E T (fo f p k) t h Q R ↔ vO E T (f E Zu t h) p k t Q R := by
  constructor
  · rintro ⟨x,⟨N,hN⟩,hq⟩
    cases ho : f E Zu t h with
    | ok d h1 =>
      refine ⟨x,⟨N,fun n hn => ?_⟩,hq⟩
      have := hN n hn
      simp only [fo,hf,ho] at this
      exact this
    | panic d h1 =>
      have := hN N (Nat.le_refl _)
      simp only [fo,hf,ho] at this
      subst this
      exact hq
    | fail w =>
      have := hN N (Nat.le_refl _)
      simp only [fo,hf,ho] at this
      subst this
      exact hq
  · intro hs
    cases ho : f E Zu t h with
    | ok d h1 =>
      rw [ho] at hs
      obtain ⟨x,hr,hq⟩ := hs
      exact ⟨x,Z7h (fun c => (hf c).trans ho) hr,hq⟩
    | panic d h1 =>
      rw [ho] at hs
      exact ⟨.panic d h1,⟨0,fun n _ => by simp only [fo,hf,ho]⟩,hs⟩
    | fail w => rw [ho] at hs; exact hs.elim
theorem Uk : VR E T Z2 t h Q R ↔ Q .normal t h := by
  constructor
  · rintro ⟨x,⟨N,hN⟩,hq⟩
    have := hN N (Nat.le_refl _)
    subst this
    exact hq
  · intro hq; exact ⟨_,Z3a,hq⟩
def vG (E : Env) (T : Nat → ZV) (b : Bool) (f : Zcz) (p : D → Tr D → Tr D) (k : FR) (t : Tr D) (h : H) (Q : UU) (R : ZM) : Prop := bif b then VR E T (fo f p k) t h Q R else VR E T k (p ZD t) h Q R
@[congr] theorem vG_congr {b b' : Bool} {f : Zcz} (hb : b = b') (ht : t = t') (hh : h = h') : vG E T b f p k t h Q R = vG E T b' f p k t' h' Q R := by rw [hb,ht,hh]
theorem Zip {f : Zcz} : vG E T true f p k t h Q R ↔ VR E T (fo f p k) t h Q R := Iff.rfl
theorem Ziq {f : Zcz} : vG E T false f p k t h Q R ↔ VR E T k (p ZD t) h Q R := Iff.rfl
theorem Ui {g : Tr D → D} {w : Bool} {f : Zcz} : VR E T (Yl g w f p k) t h Q R ↔ vG E T (wanted (g t) w) f p k t h Q R := by
  unfold vG VR Zwa
  cases hw : wanted (g t) w <;> simp only [Yl,hw,cond_true,cond_false]
theorem VQ {f : Zcz} (hf : ∀ c,f E c t h = f E Zu t h) : VD E T (Ze f p kd) recs t h Q R ↔ vD E T (f E Zu t h) p kd recs t Q R := by
  constructor
  · rintro ⟨x,⟨N,hN⟩,hq⟩
    cases ho : f E Zu t h with
    | ok d h1 =>
      refine ⟨x,⟨N,fun n hn => ?_⟩,hq⟩
      have := hN n hn
      simp only [Ze,hf,ho] at this
      exact this
    | panic d h1 =>
      have := hN N (Nat.le_refl _)
      simp only [Ze,hf,ho] at this
      subst this
      exact hq
    | fail w =>
      have := hN N (Nat.le_refl _)
      simp only [Ze,hf,ho] at this
      subst this
      exact hq
  · intro hs
    cases ho : f E Zu t h with
    | ok d h1 =>
      rw [ho] at hs
      obtain ⟨x,hr,hq⟩ := hs
      exact ⟨x,Z7i (fun c => (hf c).trans ho) hr,hq⟩
    | panic d h1 => rw [ho] at hs; exact hs.elim
    | fail w => rw [ho] at hs; exact hs.elim
theorem Uu : VD E T Xg recs t h Q R ↔ Q .normal t h := by
  constructor
  · rintro ⟨x,⟨N,hN⟩,hq⟩
    have := hN N (Nat.le_refl _)
    subst this
    exact hq
  · intro hq; exact ⟨_,Z3b,hq⟩
theorem vd_rd {g : Tr D → D} {f : Zcz} (hf : ∀ c,f E c t h = f E Zu t h) :
    VD E T (Xw i inc n g f p kd) recs t h Q R ↔ vRd E T (f E Zu t h) (Z3 h (g t) n) i inc (g t) p kd recs t Q R := by
  constructor
  · rintro ⟨x,⟨N,hN⟩,hq⟩
    have h0 := hN N (Nat.le_refl _)
    cases ho : f E Zu t h with
    | ok d h1 =>
      cases hc : Z3 h (g t) n with
      | none => simp only [Xw,Zct,Zgb,Z6d,hf,ho,hc] at h0; subst h0; exact hq
      | some cs =>
        cases hb : XA inc (g t) cs recs with
        | false => simp only [Xw,Zct,Zgb,Z6d,hf,ho,hc,hb,cond_false] at h0; subst h0; exact hq.elim
        | true =>
          refine ⟨hb,x,⟨N,fun n hn => ?_⟩,hq⟩
          have := hN n hn
          simp only [Xw,Zct,Zgb,Z6d,hf,ho,hc,hb,cond_true] at this
          exact this
    | panic d h1 => simp only [Xw,Zct,Zgb,Z6d,hf,ho] at h0; subst h0; exact hq
    | fail w => simp only [Xw,Zct,Zgb,Z6d,hf,ho] at h0; subst h0; exact hq
  · intro hs
    cases ho : f E Zu t h with
    | ok d h1 =>
      rw [ho] at hs
      cases hc : Z3 h (g t) n with
      | none => rw [hc] at hs; exact hs.elim
      | some cs =>
        rw [hc] at hs
        obtain ⟨hb,x,hr,hq⟩ := hs
        exact ⟨x,Z0f (fun c => (hf c).trans ho) hc hb hr,hq⟩
    | panic d h1 => rw [ho] at hs; exact hs.elim
    | fail w => rw [ho] at hs; exact hs.elim
theorem Z16 {f : Zcz} (hf : ∀ c,f E c t h = f E Zu t h) :
    VD E T (Zg8 i inc f p kd) recs t h Q R ↔ vL E T (f E Zu t h) i inc h p kd recs t Q R := by
  constructor
  · rintro ⟨x,⟨N,hN⟩,hq⟩
    have h0 := hN N (Nat.le_refl _)
    cases ho : f E Zu t h with
    | ok d h1 =>
      cases hb : YJ inc h1 recs with
      | false => simp only [Zg8,Zfe,hf,ho,hb,cond_false] at h0; subst h0; exact hq.elim
      | true =>
        refine ⟨hb,x,⟨N,fun n hn => ?_⟩,hq⟩
        have := hN n hn
        simp only [Zg8,Zfe,hf,ho,hb,cond_true] at this
        exact this
    | panic d h1 => simp only [Zg8,Zfe,hf,ho] at h0; subst h0; exact hq
    | fail w => simp only [Zg8,Zfe,hf,ho] at h0; subst h0; exact hq
  · intro hs
    cases ho : f E Zu t h with
    | ok d h1 =>
      rw [ho] at hs
      obtain ⟨hb,x,hr,hq⟩ := hs
      exact ⟨x,Z0g (fun c => (hf c).trans ho) hb hr,hq⟩
    | panic d h1 => rw [ho] at hs; exact hs.elim
    | fail w => rw [ho] at hs; exact hs.elim
theorem Vl {f : Nat} {gs : List (Tr D → D)} (hc : VC E T f (Zky gs t) h (fun d h' => VR E T k (p d t) h' Q R) R) : VR E T (fo (Zw f gs) p k) t h Q R := by
  obtain ⟨o,⟨M,hM⟩,ho⟩ := hc
  cases o with
  | ok d h1 =>
    obtain ⟨x,hr,hq⟩ := ho
    exact ⟨x,Z0e ⟨M,hM⟩ hr,hq⟩
  | panic d h1 => exact ⟨.panic d h1,⟨M,fun n hn => by show O.casesOn (motive := fun _ => XT) (ZI E T n f (Zky gs t) h) _ _ _ = _; rw [hM n hn]⟩,ho⟩
  | fail w => exact ho.elim
theorem U0 {f : Nat} {gs : List (Tr D → D)} (hc : VC E T f (Zky gs t) h (fun d h' => YJ inc h' recs = true ∧ VD E T kd (.loud i h :: recs) (p d t) h' Q R) Zd8) : VD E T (Zg8 i inc (Zw f gs) p kd) recs t h Q R := by
  obtain ⟨o,he,ho⟩ := hc
  cases o with
  | ok d h1 =>
    obtain ⟨hb,x,hr,hq⟩ := ho
    exact ⟨x,Z0h he hb hr,hq⟩
  | panic d h1 => exact ho.elim
  | fail w => exact ho.elim
theorem Yc (hq : Q .normal t h) : VP E T Zx t h Q R := ⟨_,Zqm,hq⟩
theorem Yd (hq : Q (.exit i) t h) : VP E T (Vi i) t h Q R := ⟨_,Zqo,hq⟩
theorem Xo (hq : Q .ret t h) : VP E T Zv t h Q R := ⟨_,Zub,hq⟩
theorem Xp (hq : VR E T r t h Q R) : VP E T (Z1 r) t h Q R := by
  obtain ⟨x,hr,hq⟩ := hq
  exact ⟨_,Z29 hr,hq⟩
theorem Ye (hq : VD E T rd [] t h Q R) : VP E T (Xf rd) t h Q R := by
  obtain ⟨x,hr,hq⟩ := hq
  exact ⟨_,Z0d hr,hq⟩
theorem Zr9 {a b : FC} (ha : Zbk E T a t h (.panic d h1)) : Zbk E T (Z0 a b) t h (.panic d h1) := by
  obtain ⟨N,hN⟩ := ha
  refine ⟨N + 1,fun n m hn hm => ?_⟩
  cases m with
  | zero => omega
  | succ m =>
    show XT.casesOn (motive := fun _ => XT) (a E (ZI E T n) m t h) _ _ _ = _
    rw [hN n m (by omega) (by omega)]
theorem Znx {a : FC} {id : Nat} (ha : Zbk E T a t h (.panic d h1)) : Zbk E T (ZA id a) t h (.panic d h1) := by
  obtain ⟨N,hN⟩ := ha
  refine ⟨N + 1,fun n m hn hm => ?_⟩
  cases m with
  | zero => omega
  | succ m =>
    show XT.casesOn (motive := fun _ => XT) (a E (ZI E T n) m t h) _ _ _ = _
    rw [hN n m (by omega) (by omega)]
theorem Zix {a : FC} (ha : Zbk E T a t h (.panic d h1)) : Zbk E T (Xy a) t h (.panic d h1) := by
  obtain ⟨N,hN⟩ := ha
  refine ⟨N + 1,fun n m hn hm => ?_⟩
  cases m with
  | zero => omega
  | succ m =>
    simp only [Zgr]
    rw [hN n m (by omega) (by omega)]
theorem Xn (hq : VP E T a t h (Z9l E T b Q R) R) : VP E T (Z0 a b) t h Q R := by
  obtain ⟨x,hr,hq⟩ := hq
  cases x with
  | out e t1 h1 => cases e with
    | normal =>
      obtain ⟨x,hr',hq⟩ := hq
      exact ⟨_,Zua hr hr',hq⟩
    | exit i => exact ⟨_,Zdl hr trivial,hq⟩
    | ret => exact ⟨_,Zdl hr trivial,hq⟩
  | panic d h1 => exact ⟨_,Zr9 hr,hq⟩
  | fail w => exact hq.elim
theorem ZQ {id : Nat} (hq : VP E T a t h (Z1x id Q) R) : VP E T (ZA id a) t h Q R := by
  obtain ⟨x,hr,hq⟩ := hq
  cases x with
  | out e t1 h1 => exact ⟨_,Zny hr,hq⟩
  | panic d h1 => exact ⟨_,Znx hr,hq⟩
  | fail w => exact hq.elim
theorem Yf {g : Tr D → D} (hq : vB E T (g t) a b t h Q R) : VP E T (Zg g a b) t h Q R := by
  unfold vB at hq
  split at hq
  · rename_i v hv
    cases v with
    | true =>
      obtain ⟨x,hr,hq⟩ := hq
      exact ⟨_,Zib true hv hr,hq⟩
    | false =>
      obtain ⟨x,hr,hq⟩ := hq
      exact ⟨_,Zib false hv hr,hq⟩
  · exact hq.elim
def Zrs (I : Nat → Tr D → H → Prop) (n : Nat) (Q : UU) : UU := fun e t h =>
  match e with
  | .normal => ∃ m,m < n ∧ I m t h
  | .exit i => Q (.exit i) t h
  | .ret => Q .ret t h
theorem V7 {I : Nat → Tr D → H → Prop} {Q : UU} : Zrs I n Q .normal t h ↔ ∃ m,m < n ∧ I m t h := Iff.rfl
theorem V8 {I : Nat → Tr D → H → Prop} {Q : UU} : Zrs I n Q (.exit i) t h ↔ Q (.exit i) t h := Iff.rfl
theorem V6 {I : Nat → Tr D → H → Prop} {Q : UU} : Zrs I n Q .ret t h ↔ Q .ret t h := Iff.rfl
theorem Zyb (I : Nat → Tr D → H → Prop) {n : Nat} {t : Tr D} {h : H} (hi : I n t h) (hb : ∀ n t h,I n t h → VP E T a t h (Zrs I n Q) R) : VP E T (Xy a) t h Q R := by
  induction n using Nat.strongRecOn generalizing t h with
  | ind n ih =>
    obtain ⟨x,hr,hq⟩ := hb n t h hi
    cases x with
    | out e t1 h1 => cases e with
      | normal =>
        obtain ⟨m,hm,hq⟩ := hq
        obtain ⟨x,hr',hq⟩ := ih m hm hq
        exact ⟨_,Zqn hr hr',hq⟩
      | exit i => exact ⟨_,Zb6 hr trivial,hq⟩
      | ret => exact ⟨_,Zb6 hr trivial,hq⟩
    | panic d h1 => exact ⟨_,Zix hr,hq⟩
    | fail w => exact hq.elim
theorem Z14 (I : Tr D → H → Nat → Tr D → H → Prop) (n : Nat) (hi : I t h n t h) (hb : ∀ n t1 h1,I t h n t1 h1 → VP E T a t1 h1 (Zrs (I t h) n Q) R) : VP E T (Xy a) t h Q R := Zyb (I t h) hi hb
theorem Zd {f : Nat} {ss : List (D → Tr D → Tr D)} {res : Tr D → H → O D} {body : FC} {args : List D} {Q : D → H → Prop} (hT : T f = Zbg ss res body) (hq : VP E T body (Zef 0 ss args .nil) h (Lfn res Q) R) : VC E T f args h Q R := by
  obtain ⟨x,hr,hq⟩ := hq
  have fin : ∀ e t1 h1,ends e → Zbk E T body (Zef 0 ss args .nil) h (.out e t1 h1) → sC (res t1 h1) Q → VC E T f args h Q R := by
    intro e t1 h1 he hr hq
    cases ho : res t1 h1 with
    | ok d h2 => rw [ho] at hq; exact ⟨.ok d h2,ev_fn hT hr he ho,hq⟩
    | panic d h2 => rw [ho] at hq; exact hq.elim
    | fail w => rw [ho] at hq; exact hq.elim
  cases x with
  | out e t1 h1 => cases e with
    | normal => exact fin .normal _ _ trivial hr hq
    | exit i => exact hq.elim
    | ret => exact fin .ret _ _ trivial hr hq
  | panic d h1 =>
    obtain ⟨N,hN⟩ := hr
    refine ⟨.panic d h1,⟨N + 1,fun n hn => ?_⟩,hq⟩
    cases n with
    | zero => omega
    | succ n =>
      show T f E n (ZI E T n) args h = _
      rw [hT]
      show XT.casesOn (motive := fun _ => O D) (body E (ZI E T n) n (Zef 0 ss args .nil) h) _ _ _ = _
      rw [hN n n (by omega) (by omega)]
  | fail w => exact hq.elim
theorem Zbr {f : Nat} {g : List D → H → O D} {args : List D} {Q : D → H → Prop} (hT : T f = YK g) (hq : VO Q R (g args h)) : VC E T f args h Q R := ⟨_,ev_lib hT rfl,hq⟩
end
variable {p : D → Tr D → Tr D} {k : FR} {kd : FD} {recs : List Rec} {t : Tr D} {h : H} {Q : UU} {R : ZM} {g g1 g2 g3 : Tr D → D} {i : Nat} {inc : List Nat}
theorem Zc2 : VR E T (fo (Zh g) p k) t h Q R ↔ VR E T k (p (g t) t) h Q R := Xc fun _ => rfl
theorem Ud : VR E T (fo (u1 Yy g) p k) t h Q R ↔ vO E T (Zhp (g t) h) p k t Q R := by rw [← Zym (E := E) (c := Zu) (a := act t)]; exact Xc fun _ => rfl
theorem Zc3 {n : Nat} : VR E T (fo (u1 (Zt n) g) p k) t h Q R ↔ vO E T (oFa n (g t) h) p k t Q R := by rw [← Z3j (E := E) (c := Zu) (a := act t)]; exact Xc fun _ => rfl
theorem Ub : VR E T (fo (u1 Z4 g) p k) t h Q R ↔ vO E T (Z36 (g t) h) p k t Q R := by rw [← Zyl (E := E) (c := Zu) (a := act t)]; exact Xc fun _ => rfl
theorem Uj {n : Nat} : VR E T (fo (u1 (Xe n) g) p k) t h Q R ↔ vO E T (Z0s n (g t) h) p k t Q R := by rw [← Zyo (E := E) (c := Zu) (a := act t)]; exact Xc fun _ => rfl
theorem Ua : VR E T (fo (u1 (Ze7 .not) g) p k) t h Q R ↔ vO E T (oNot E (g t) h) p k t Q R := Xc fun _ => rfl
theorem Ug {n : Nat} : VR E T (fo (u2 (ZZ n) g1 g2) p k) t h Q R ↔ vO E T (Zci n (g1 t) (g2 t) h) p k t Q R := by rw [← Zyn (E := E) (c := Zu) (a := act t)]; exact Xc fun _ => rfl
theorem Zc1 {n : Nat} : VR E T (fo (uo (Zd3 n) g1 none (some g2)) p k) t h Q R ↔ vO E T (Z0q n (g1 t) (g2 t) h) p k t Q R := by rw [← Zui (E := E) (c := Zu) (a := act t)]; exact Xc fun _ => rfl
theorem Uf : VR E T (fo (Zl g) p k) t h Q R ↔ vO E T (Zy0 (Z3 h (g t) 1) h) p k t Q R := by rw [← Z43 (E := E)]; exact Xc fun _ => rfl
theorem Ue {n : Nat} : VR E T (fo (YB n g) p k) t h Q R ↔ vO E T (Zyz (Z3 h (g t) n) h) p k t Q R := by rw [← Z42 (E := E)]; exact Xc fun _ => rfl
theorem Zc0 {n : Nat} : VR E T (fo (ZF n g1 g2) p k) t h Q R ↔ vO E T (oSt n (g1 t) (g2 t) h) p k t Q R := by rw [← Z40 (E := E) (c := Zu)]; exact Xc fun _ => rfl
theorem XJ {ty : TypeId} {z : List D} : VR E T (fo (Zo ty z) p k) t h Q R ↔ VR E T k (p (.ptr h.next 0) t) (Vr h (.cells ty z)) Q R := Xc fun _ => rfl
theorem Ul {ty : TypeId} : VR E T (fo (Zai ty g) p k) t h Q R ↔ VR E T k (p (.ptr h.next 0) t) (Vr h (.cells ty (g t).cells)) Q R := by rw [← Zdz]; exact Xc fun _ => rfl
theorem XG : VR E T (fo Zo7 p k) t h Q R ↔ VR E T k (p (.map h.next) t) (Vr h (.map [])) Q R := Xc fun _ => rfl
theorem Uh {f : IntKind → Int → Int → D} {op : BinOp} {ty : TypeId} {ox oy : Operand} : VR E T (fo (Za f op ty ox oy g1 g2) p k) t h Q R ↔ vO E T (Zha E f op ty ox oy (g1 t) (g2 t) h) p k t Q R := by rw [← Z3m (E := E) (c := Zu)]; exact Xc fun _ => rfl
theorem WL {op : BinOp} {ty : TypeId} {ox oy : Operand} : VR E T (fo (Zr7 op ty ox oy g1 g2) p k) t h Q R ↔ vO E T (Zbl (Zcq E op ty ox oy (g1 t) (g2 t)) h "bin") p k t Q R := Xc fun _ => rfl
theorem Us {f : IntKind → Int → Int → D} {op : BinOp} {ty : TypeId} {ox oy : Operand} : VD E T (Ze (Za f op ty ox oy g1 g2) p kd) recs t h Q R ↔ vD E T (Zha E f op ty ox oy (g1 t) (g2 t) h) p kd recs t Q R := by rw [← Z3m (E := E) (c := Zu)]; exact VQ fun _ => rfl
theorem WM : VR E T (fo (Yb g1 g2 g3) p k) t h Q R ↔ vO E T (Zyx (g1 t) (g2 t) (g3 t) h) p k t Q R := by rw [← Zzd (E := E) (c := Zu)]; exact Xc fun _ => rfl
theorem XH {z : List D} {ps : List (Nat × Nat × (Tr D → D))} : VR E T (fo (YQ z ps) p k) t h Q R ↔ vO E T (Zw4 (WI t z ps) h) p k t Q R := by rw [← Zgt]; exact Xc fun _ => rfl
theorem Ym {e : TypeId} {len : Nat} {z : List D} {ps : List (Nat × Nat × (Tr D → D))} : VR E T (fo (Xu e len z ps) p k) t h Q R ↔ vO E T (Zoo (WI t z ps) e len h) p k t Q R := by rw [← Zgt]; exact Xc fun _ => rfl
theorem WN {z : D} : VR E T (fo (u2 (fun x k => Ze9 0 z x k true) g1 g2) p k) t h Q R ↔ vO E T (Z39 (E := E) z (g1 t) (g2 t) h) p k t Q R := Xc fun _ => rfl
theorem UY {e : TypeId} {size bytes : Nat} {z : List D} : VR E T (fo (u2 (Zje e size bytes z) g1 g2) p k) t h Q R ↔ vO E T (oMk (E := E) e size bytes z (g1 t) (g2 t) h) p k t Q R := Xc fun _ => rfl
theorem Un {e : TypeId} {size bytes : Nat} : VR E T (fo (u2 (Zbo e size bytes) g1 g2) p k) t h Q R ↔ vO E T (Zjk e size bytes (g1 t) (g2 t) h) p k t Q R := by rw [← Zyp (E := E) (c := Zu) (a := act t)]; exact Xc fun _ => rfl
theorem Zc5 : VD E T (Ze (Zh g) p kd) recs t h Q R ↔ VD E T kd recs (p (g t) t) h Q R := VQ fun _ => rfl
theorem Zc6 {n : Nat} : VD E T (Ze (u1 (Zt n) g) p kd) recs t h Q R ↔ vD E T (oFa n (g t) h) p kd recs t Q R := by rw [← Z3j (E := E) (c := Zu) (a := act t)]; exact VQ fun _ => rfl
theorem Uo : VD E T (Ze (u1 Z4 g) p kd) recs t h Q R ↔ vD E T (Z36 (g t) h) p kd recs t Q R := by rw [← Zyl (E := E) (c := Zu) (a := act t)]; exact VQ fun _ => rfl
theorem Ut {n : Nat} : VD E T (Ze (u1 (Xe n) g) p kd) recs t h Q R ↔ vD E T (Z0s n (g t) h) p kd recs t Q R := by rw [← Zyo (E := E) (c := Zu) (a := act t)]; exact VQ fun _ => rfl
theorem Ur {n : Nat} : VD E T (Ze (u2 (ZZ n) g1 g2) p kd) recs t h Q R ↔ vD E T (Zci n (g1 t) (g2 t) h) p kd recs t Q R := by rw [← Zyn (E := E) (c := Zu) (a := act t)]; exact VQ fun _ => rfl
theorem XL {ty : TypeId} {z : List D} : VD E T (Ze (Zo ty z) p kd) recs t h Q R ↔ VD E T kd recs (p (.ptr h.next 0) t) (Vr h (.cells ty z)) Q R := VQ fun _ => rfl
theorem XK {z : List D} {ps : List (Nat × Nat × (Tr D → D))} : VD E T (Ze (YQ z ps) p kd) recs t h Q R ↔ vD E T (Zw4 (WI t z ps) h) p kd recs t Q R := by rw [← Zgt]; exact VQ fun _ => rfl
theorem Yn {e : TypeId} {len : Nat} {z : List D} {ps : List (Nat × Nat × (Tr D → D))} : VD E T (Ze (Xu e len z ps) p kd) recs t h Q R ↔ vD E T (Zoo (WI t z ps) e len h) p kd recs t Q R := by rw [← Zgt]; exact VQ fun _ => rfl
theorem Uq {n : Nat} : VD E T (Xw i inc n g1 (Zl g) p kd) recs t h Q R ↔ vRd E T (Zy0 (Z3 h (g t) 1) h) (Z3 h (g1 t) n) i inc (g1 t) p kd recs t Q R := by rw [← Z43 (E := E)]; exact vd_rd fun _ => rfl
theorem Up {n m : Nat} : VD E T (Xw i inc n g1 (YB m g) p kd) recs t h Q R ↔ vRd E T (Zyz (Z3 h (g t) m) h) (Z3 h (g1 t) n) i inc (g1 t) p kd recs t Q R := by rw [← Z42 (E := E)]; exact vd_rd fun _ => rfl
theorem Zc4 {n : Nat} : VD E T (Zg8 i inc (ZF n g1 g2) p kd) recs t h Q R ↔ vL E T (oSt n (g1 t) (g2 t) h) i inc h p kd recs t Q R := by rw [← Z40 (E := E) (c := Zu)]; exact Z16 fun _ => rfl
theorem WR : VD E T (Zg8 i inc (u3 (Zgf 0) g1 g2 g3) p kd) recs t h Q R ↔ vL E T (Z37 (E := E) (g1 t) (g2 t) (g3 t) h) i inc h p kd recs t Q R := Z16 fun _ => rfl
theorem Uv {e : TypeId} {size bytes : Nat} : VD E T (Zg8 i inc (u2 (Zbo e size bytes) g1 g2) p kd) recs t h Q R ↔ vL E T (Zjk e size bytes (g1 t) (g2 t) h) i inc h p kd recs t Q R := by rw [← Zyp (E := E) (c := Zu) (a := act t)]; exact Z16 fun _ => rfl
theorem Um : VR E T (fo (u1 Zj8 g) p k) t h Q R ↔ vO E T (Zuw (g t) h) p k t Q R := Xc fun _ => rfl
theorem WO : VR E T (fo (u1 Vm g) p k) t h Q R ↔ vO E T (Zyy (g t) h) p k t Q R := by rw [← Zuk (E := E) (c := Zu) (a := act t)]; exact Xc fun _ => rfl
theorem YN {lo hi : Option (Tr D → D)} : VR E T (fo (Zcv g lo hi) p k) t h Q R ↔ vO E T (Zho (lo.map (· t)) (hi.map (· t)) (g t) h) p k t Q R := by
  rw [← Zft (E := E) Zu]
  exact Xc fun c => by rw [Zft,Zft]
def Zy3 (kk : IntKind) (d : D) (h : H) : O D :=
  match d with
  | .int _ n => .ok (.int kk (Zeq kk n)) h
  | _ => .fail "cint"
theorem Zzh {E : Env} {kk : IntKind} {g : Tr D → D} {t : Tr D} {h : H} {c : Call} : VM kk g E c t h = Zy3 kk (g t) h := by
  unfold VM
  cases g t <;> rfl
theorem WQ {kk : IntKind} : VR E T (fo (VM kk g) p k) t h Q R ↔ vO E T (Zy3 kk (g t) h) p k t Q R := by rw [← Zzh (E := E) (c := Zu)]; exact Xc fun _ => rfl
theorem WS {kk : IntKind} : VD E T (Ze (VM kk g) p kd) recs t h Q R ↔ vD E T (Zy3 kk (g t) h) p kd recs t Q R := by rw [← Zzh (E := E) (c := Zu)]; exact VQ fun _ => rfl
theorem V5 {kk ki : IntKind} {n : Int} : Zy3 kk (.int ki n) h = .ok (.int kk (Zeq kk n)) h := rfl
end
end
end Go.Abs
