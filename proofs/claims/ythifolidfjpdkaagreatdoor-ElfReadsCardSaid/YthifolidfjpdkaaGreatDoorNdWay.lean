/- The quick code, run by rules: calls that may panic; walks that do not look ahead. -/
import Derived.Test.YthifolidfjpdkaaGreatDoorNdSym
set_option linter.unusedVariables false
set_option linter.unusedSimpArgs false
namespace Go.Abs
noncomputable section
section
variable {E : Env} {T : Nat → Yd}
abbrev Y1 := D → H → Prop
def VX (Q : UD) (R : Y1) : XT → Prop
  | .out e t h => Q e t h
  | .panic d h => R d h
  | .fail _ => False
def VO (Q : D → H → Prop) (R : Y1) : O D → Prop
  | .ok d h => Q d h
  | .panic d h => R d h
  | .fail _ => False
def VP (E : Env) (T : Nat → Yd) (c : FC) (t : Tr D) (h : H) (Q : UD) (R : Y1) : Prop := ∃ x, Uw E T c t h x ∧ VX Q R x
def VR (E : Env) (T : Nat → Yd) (r : FR) (t : Tr D) (h : H) (Q : UD) (R : Y1) : Prop := ∃ x, Ztc E T r t h x ∧ VX Q R x
def VD (E : Env) (T : Nat → Yd) (r : FD) (recs : List Rec) (t : Tr D) (h : H) (Q : UD) (R : Y1) : Prop := ∃ x, Zk0 E T r recs t h x ∧ VX Q R x
def VC (E : Env) (T : Nat → Yd) (f : Nat) (args : List D) (h : H) (Q : D → H → Prop) (R : Y1) : Prop := ∃ o, Ev E T f args h o ∧ VO Q R o
theorem VC.mono {f : Nat} {args : List D} {h : H} {Q Q' : D → H → Prop} {R R' : Y1} (hc : VC E T f args h Q R) (hq : ∀ d h', Q d h' → Q' d h') (hr : ∀ d h', R d h' → R' d h') : VC E T f args h Q' R' := by
  obtain ⟨o, he, h1⟩ := hc
  refine ⟨o, he, ?_⟩
  cases o with
  | ok d h' => exact hq _ _ h1
  | panic d h' => exact hr _ _ h1
  | fail w => exact h1
def Z0c : Y1 := fun _ _ => False
theorem VP.mono {c : FC} {t : Tr D} {h : H} {Q Q' : UD} {R R' : Y1} (hc : VP E T c t h Q R) (hq : ∀ e t' h', Q e t' h' → Q' e t' h') (hr : ∀ d h', R d h' → R' d h') : VP E T c t h Q' R' := by
  obtain ⟨x, he, h1⟩ := hc
  refine ⟨x, he, ?_⟩
  cases x with
  | out e t' h' => exact hq _ _ _ h1
  | panic d h' => exact hr _ _ h1
  | fail w => exact h1
def Lseq (E : Env) (T : Nat → Yd) (b : FC) (Q : UD) (R : Y1) : UD := fun e t h =>
  match e with
  | .normal => VP E T b t h Q R
  | .exit i => Q (.exit i) t h
  | .ret => Q .ret t h
def Lfn (res : Tr D → H → O D) (Q : D → H → Prop) : UD := fun e t h =>
  match e with
  | .exit _ => False
  | _ => sC (res t h) Q
def vO (E : Env) (T : Nat → Yd) (o : O D) (p : D → Tr D → Tr D) (k : FR) (t : Tr D) (Q : UD) (R : Y1) : Prop :=
  match o with
  | .ok d h => VR E T k (p d t) h Q R
  | .panic d h => R d h
  | .fail _ => False
def vD (E : Env) (T : Nat → Yd) (o : O D) (p : D → Tr D → Tr D) (k : FD) (recs : List Rec) (t : Tr D) (Q : UD) (R : Y1) : Prop :=
  match o with
  | .ok d h => VD E T k recs (p d t) h Q R
  | _ => False
def vRd (E : Env) (T : Nat → Yd) (o : O D) (c : Option (List D)) (i : Nat) (inc : List Nat) (a : D) (p : D → Tr D → Tr D) (k : FD) (recs : List Rec) (t : Tr D) (Q : UD) (R : Y1) : Prop :=
  match o, c with
  | .ok d h, some cs => Xe inc a cs recs = true ∧ VD E T k (.rd i a cs :: recs) (p d t) h Q R
  | _, _ => False
def vL (E : Env) (T : Nat → Yd) (o : O D) (i : Nat) (inc : List Nat) (h0 : H) (p : D → Tr D → Tr D) (k : FD) (recs : List Rec) (t : Tr D) (Q : UD) (R : Y1) : Prop :=
  match o with
  | .ok d h => Yz inc h recs = true ∧ VD E T k (.loud i h0 :: recs) (p d t) h Q R
  | _ => False
def vB (E : Env) (T : Nat → Yd) (d : D) (a b : FC) (t : Tr D) (h : H) (Q : UD) (R : Y1) : Prop :=
  match d with
  | .v (.bool v) => bif v then VP E T a t h Q R else VP E T b t h Q R
  | _ => False
section
variable {d dd : D} {h h' h0 h1 : H} {p : D → Tr D → Tr D} {k : FR} {kd : FD} {t t' : Tr D} {Q : UD} {R : Y1} {recs : List Rec} {i n : Nat} {inc : List Nat} {cs : List D} {a b : FC} {o o' : O D} {w : String} {r : FR} {rd : FD}
@[congr] theorem VR_congr (ht : t = t') (hh : h = h') : VR E T r t h Q R = VR E T r t' h' Q R := by rw [ht, hh]
@[congr] theorem VD_congr {recs' : List Rec} (hr : recs = recs') (ht : t = t') (hh : h = h') : VD E T rd recs t h Q R = VD E T rd recs' t' h' Q R := by rw [hr, ht, hh]
@[congr] theorem VP_congr (ht : t = t') (hh : h = h') : VP E T a t h Q R = VP E T a t' h' Q R := by rw [ht, hh]
@[congr] theorem vO_congr (ho : o = o') (ht : t = t') : vO E T o p k t Q R = vO E T o' p k t' Q R := by rw [ho, ht]
@[congr] theorem vD_congr {recs' : List Rec} (ho : o = o') (hr : recs = recs') (ht : t = t') : vD E T o p kd recs t Q R = vD E T o' p kd recs' t' Q R := by rw [ho, hr, ht]
@[congr] theorem vRd_congr {recs' : List Rec} {c c' : Option (List D)} {aa aa' : D} (ho : o = o') (hc : c = c') (ha : aa = aa') (hr : recs = recs') (ht : t = t') : vRd E T o c i inc aa p kd recs t Q R = vRd E T o' c' i inc aa' p kd recs' t' Q R := by rw [ho, hc, ha, hr, ht]
@[congr] theorem vL_congr {recs' : List Rec} (ho : o = o') (hh : h0 = h1) (hr : recs = recs') (ht : t = t') : vL E T o i inc h0 p kd recs t Q R = vL E T o' i inc h1 p kd recs' t' Q R := by rw [ho, hh, hr, ht]
@[congr] theorem vB_congr (hd : d = dd) (ht : t = t') (hh : h = h') : vB E T d a b t h Q R = vB E T dd a b t' h' Q R := by rw [hd, ht, hh]
theorem Zd1 : vO E T (.ok d h) p k t Q R ↔ VR E T k (p d t) h Q R := Iff.rfl
theorem Zak : vO E T (.panic d h) p k t Q R ↔ R d h := Iff.rfl
theorem Zd5 : vD E T (.ok d h) p kd recs t Q R ↔ VD E T kd recs (p d t) h Q R := Iff.rfl
theorem Zaj {aa : D} : vRd E T (.ok d h) (some cs) i inc aa p kd recs t Q R ↔ Xe inc aa cs recs = true ∧ VD E T kd (.rd i aa cs :: recs) (p d t) h Q R := Iff.rfl
theorem Zd2 : vL E T (.ok d h) i inc h0 p kd recs t Q R ↔ Yz inc h recs = true ∧ VD E T kd (.loud i h0 :: recs) (p d t) h Q R := Iff.rfl
theorem Zi0 : vB E T (.v (.bool true)) a b t h Q R ↔ VP E T a t h Q R := Iff.rfl
theorem Zi1 : vB E T (.v (.bool false)) a b t h Q R ↔ VP E T b t h Q R := Iff.rfl
theorem Za1 {Q : UD} : Lseq E T b Q R .normal t h ↔ VP E T b t h Q R := Iff.rfl
theorem Za0 {Q : UD} : Lseq E T b Q R .ret t h ↔ Q .ret t h := Iff.rfl
theorem Za2 {Q : UD} : Lseq E T b Q R (.exit i) t h ↔ Q (.exit i) t h := Iff.rfl
theorem Zek {res : Tr D → H → O D} {Q : D → H → Prop} : Lfn res Q .normal t h ↔ sC (res t h) Q := Iff.rfl
theorem Zej {res : Tr D → H → O D} {Q : D → H → Prop} : Lfn res Q .ret t h ↔ sC (res t h) Q := Iff.rfl
theorem YH {f : Zb0} (hf : ∀ c, f E c t h = f E ZD t h) : VR E T (fo f p k) t h Q R ↔ vO E T (f E ZD t h) p k t Q R := by
  constructor
  · rintro ⟨x, ⟨N, hN⟩, hq⟩
    cases ho : f E ZD t h with
    | ok d h1 =>
      refine ⟨x, ⟨N, fun n hn => ?_⟩, hq⟩
      have := hN n hn
      simp only [fo, hf, ho] at this
      exact this
    | panic d h1 =>
      have := hN N (Nat.le_refl _)
      simp only [fo, hf, ho] at this
      subst this
      exact hq
    | fail w =>
      have := hN N (Nat.le_refl _)
      simp only [fo, hf, ho] at this
      subst this
      exact hq
  · intro hs
    cases ho : f E ZD t h with
    | ok d h1 =>
      rw [ho] at hs
      obtain ⟨x, hr, hq⟩ := hs
      exact ⟨x, Z2u (fun c => (hf c).trans ho) hr, hq⟩
    | panic d h1 =>
      rw [ho] at hs
      exact ⟨.panic d h1, ⟨0, fun n _ => by simp only [fo, hf, ho]⟩, hs⟩
    | fail w => rw [ho] at hs; exact hs.elim
theorem UR : VR E T Z8 t h Q R ↔ Q .normal t h := by
  constructor
  · rintro ⟨x, ⟨N, hN⟩, hq⟩
    have := hN N (Nat.le_refl _)
    subst this
    exact hq
  · intro hq; exact ⟨_, Zzf, hq⟩
def vG (E : Env) (T : Nat → Yd) (b : Bool) (f : Zb0) (p : D → Tr D → Tr D) (k : FR) (t : Tr D) (h : H) (Q : UD) (R : Y1) : Prop := bif b then VR E T (fo f p k) t h Q R else VR E T k (p ZT t) h Q R
@[congr] theorem vG_congr {b b' : Bool} {f : Zb0} (hb : b = b') (ht : t = t') (hh : h = h') : vG E T b f p k t h Q R = vG E T b' f p k t' h' Q R := by rw [hb, ht, hh]
theorem Ziy {f : Zb0} : vG E T true f p k t h Q R ↔ VR E T (fo f p k) t h Q R := Iff.rfl
theorem Ziz {f : Zb0} : vG E T false f p k t h Q R ↔ VR E T k (p ZT t) h Q R := Iff.rfl
theorem UO {g : Tr D → D} {w : Bool} {f : Zb0} : VR E T (YG g w f p k) t h Q R ↔ vG E T (wanted (g t) w) f p k t h Q R := by
  unfold vG VR Ztc
  cases hw : wanted (g t) w <;> simp only [YG, hw, cond_true, cond_false]
theorem VI {f : Zb0} (hf : ∀ c, f E c t h = f E ZD t h) : VD E T (Zu f p kd) recs t h Q R ↔ vD E T (f E ZD t h) p kd recs t Q R := by
  constructor
  · rintro ⟨x, ⟨N, hN⟩, hq⟩
    cases ho : f E ZD t h with
    | ok d h1 =>
      refine ⟨x, ⟨N, fun n hn => ?_⟩, hq⟩
      have := hN n hn
      simp only [Zu, hf, ho] at this
      exact this
    | panic d h1 =>
      have := hN N (Nat.le_refl _)
      simp only [Zu, hf, ho] at this
      subst this
      exact hq
    | fail w =>
      have := hN N (Nat.le_refl _)
      simp only [Zu, hf, ho] at this
      subst this
      exact hq
  · intro hs
    cases ho : f E ZD t h with
    | ok d h1 =>
      rw [ho] at hs
      obtain ⟨x, hr, hq⟩ := hs
      exact ⟨x, Z2v (fun c => (hf c).trans ho) hr, hq⟩
    | panic d h1 => rw [ho] at hs; exact hs.elim
    | fail w => rw [ho] at hs; exact hs.elim
theorem Zag : VD E T YZ recs t h Q R ↔ Q .normal t h := by
  constructor
  · rintro ⟨x, ⟨N, hN⟩, hq⟩
    have := hN N (Nat.le_refl _)
    subst this
    exact hq
  · intro hq; exact ⟨_, Zzg, hq⟩
theorem vd_rd {g : Tr D → D} {f : Zb0} (hf : ∀ c, f E c t h = f E ZD t h) :
    VD E T (Xj i inc n g f p kd) recs t h Q R ↔ vRd E T (f E ZD t h) (Zi h (g t) n) i inc (g t) p kd recs t Q R := by
  constructor
  · rintro ⟨x, ⟨N, hN⟩, hq⟩
    have h0 := hN N (Nat.le_refl _)
    cases ho : f E ZD t h with
    | ok d h1 =>
      cases hc : Zi h (g t) n with
      | none => simp only [Xj, Zbt, Ze1, Z1x, hf, ho, hc] at h0; subst h0; exact hq
      | some cs =>
        cases hb : Xe inc (g t) cs recs with
        | false => simp only [Xj, Zbt, Ze1, Z1x, hf, ho, hc, hb, cond_false] at h0; subst h0; exact hq.elim
        | true =>
          refine ⟨hb, x, ⟨N, fun n hn => ?_⟩, hq⟩
          have := hN n hn
          simp only [Xj, Zbt, Ze1, Z1x, hf, ho, hc, hb, cond_true] at this
          exact this
    | panic d h1 => simp only [Xj, Zbt, Ze1, Z1x, hf, ho] at h0; subst h0; exact hq
    | fail w => simp only [Xj, Zbt, Ze1, Z1x, hf, ho] at h0; subst h0; exact hq
  · intro hs
    cases ho : f E ZD t h with
    | ok d h1 =>
      rw [ho] at hs
      cases hc : Zi h (g t) n with
      | none => rw [hc] at hs; exact hs.elim
      | some cs =>
        rw [hc] at hs
        obtain ⟨hb, x, hr, hq⟩ := hs
        exact ⟨x, Zw2 (fun c => (hf c).trans ho) hc hb hr, hq⟩
    | panic d h1 => rw [ho] at hs; exact hs.elim
    | fail w => rw [ho] at hs; exact hs.elim
theorem Zye {f : Zb0} (hf : ∀ c, f E c t h = f E ZD t h) :
    VD E T (Zfw i inc f p kd) recs t h Q R ↔ vL E T (f E ZD t h) i inc h p kd recs t Q R := by
  constructor
  · rintro ⟨x, ⟨N, hN⟩, hq⟩
    have h0 := hN N (Nat.le_refl _)
    cases ho : f E ZD t h with
    | ok d h1 =>
      cases hb : Yz inc h1 recs with
      | false => simp only [Zfw, Zdp, hf, ho, hb, cond_false] at h0; subst h0; exact hq.elim
      | true =>
        refine ⟨hb, x, ⟨N, fun n hn => ?_⟩, hq⟩
        have := hN n hn
        simp only [Zfw, Zdp, hf, ho, hb, cond_true] at this
        exact this
    | panic d h1 => simp only [Zfw, Zdp, hf, ho] at h0; subst h0; exact hq
    | fail w => simp only [Zfw, Zdp, hf, ho] at h0; subst h0; exact hq
  · intro hs
    cases ho : f E ZD t h with
    | ok d h1 =>
      rw [ho] at hs
      obtain ⟨hb, x, hr, hq⟩ := hs
      exact ⟨x, Zw3 (fun c => (hf c).trans ho) hb hr, hq⟩
    | panic d h1 => rw [ho] at hs; exact hs.elim
    | fail w => rw [ho] at hs; exact hs.elim
theorem Z9 {f : Nat} {gs : List (Tr D → D)} (hc : VC E T f (Zkl gs t) h (fun d h' => VR E T k (p d t) h' Q R) R) : VR E T (fo (ZW f gs) p k) t h Q R := by
  obtain ⟨o, ⟨M, hM⟩, ho⟩ := hc
  cases o with
  | ok d h1 =>
    obtain ⟨x, hr, hq⟩ := ho
    exact ⟨x, Zw1 ⟨M, hM⟩ hr, hq⟩
  | panic d h1 => exact ⟨.panic d h1, ⟨M, fun n hn => by show O.casesOn (motive := fun _ => XT) (ZY E T n f (Zkl gs t) h) _ _ _ = _; rw [hM n hn]⟩, ho⟩
  | fail w => exact ho.elim
theorem Ze {f : Nat} {gs : List (Tr D → D)} (hc : VC E T f (Zkl gs t) h (fun d h' => Yz inc h' recs = true ∧ VD E T kd (.loud i h :: recs) (p d t) h' Q R) Z0c) : VD E T (Zfw i inc (ZW f gs) p kd) recs t h Q R := by
  obtain ⟨o, he, ho⟩ := hc
  cases o with
  | ok d h1 =>
    obtain ⟨hb, x, hr, hq⟩ := ho
    exact ⟨x, Zw4 he hb hr, hq⟩
  | panic d h1 => exact ho.elim
  | fail w => exact ho.elim
theorem Za (hq : Q .normal t h) : VP E T ZJ t h Q R := ⟨_, Zn5, hq⟩
theorem Zb (hq : Q (.exit i) t h) : VP E T (WS i) t h Q R := ⟨_, Zn7, hq⟩
theorem Zk (hq : Q .ret t h) : VP E T ZF t h Q R := ⟨_, Zrh, hq⟩
theorem Zl (hq : VR E T r t h Q R) : VP E T (Z7 r) t h Q R := by
  obtain ⟨x, hr, hq⟩ := hq
  exact ⟨_, Zze hr, hq⟩
theorem Zc (hq : VD E T rd [] t h Q R) : VP E T (YY rd) t h Q R := by
  obtain ⟨x, hr, hq⟩ := hq
  exact ⟨_, Zw0 hr, hq⟩
theorem Zpl {a b : FC} (ha : Uw E T a t h (.panic d h1)) : Uw E T (Z2 a b) t h (.panic d h1) := by
  obtain ⟨N, hN⟩ := ha
  refine ⟨N + 1, fun n m hn hm => ?_⟩
  cases m with
  | zero => omega
  | succ m =>
    show XT.casesOn (motive := fun _ => XT) (a E (ZY E T n) m t h) _ _ _ = _
    rw [hN n m (by omega) (by omega)]
theorem Zlu {a : FC} {id : Nat} (ha : Uw E T a t h (.panic d h1)) : Uw E T (ZM id a) t h (.panic d h1) := by
  obtain ⟨N, hN⟩ := ha
  refine ⟨N + 1, fun n m hn hm => ?_⟩
  cases m with
  | zero => omega
  | succ m =>
    show XT.casesOn (motive := fun _ => XT) (a E (ZY E T n) m t h) _ _ _ = _
    rw [hN n m (by omega) (by omega)]
theorem Zg8 {a : FC} (ha : Uw E T a t h (.panic d h1)) : Uw E T (Xi a) t h (.panic d h1) := by
  obtain ⟨N, hN⟩ := ha
  refine ⟨N + 1, fun n m hn hm => ?_⟩
  cases m with
  | zero => omega
  | succ m =>
    simp only [Zfd]
    rw [hN n m (by omega) (by omega)]
theorem Zj (hq : VP E T a t h (Lseq E T b Q R) R) : VP E T (Z2 a b) t h Q R := by
  obtain ⟨x, hr, hq⟩ := hq
  cases x with
  | out e t1 h1 => cases e with
    | normal =>
      obtain ⟨x, hr', hq⟩ := hq
      exact ⟨_, Zrg hr hr', hq⟩
    | exit i => exact ⟨_, Zb5 hr trivial, hq⟩
    | ret => exact ⟨_, Zb5 hr trivial, hq⟩
  | panic d h1 => exact ⟨_, Zpl hr, hq⟩
  | fail w => exact hq.elim
theorem Z3 {id : Nat} (hq : VP E T a t h (Z1t id Q) R) : VP E T (ZM id a) t h Q R := by
  obtain ⟨x, hr, hq⟩ := hq
  cases x with
  | out e t1 h1 => exact ⟨_, Zlv hr, hq⟩
  | panic d h1 => exact ⟨_, Zlu hr, hq⟩
  | fail w => exact hq.elim
theorem Zd {g : Tr D → D} (hq : vB E T (g t) a b t h Q R) : VP E T (Zt g a b) t h Q R := by
  unfold vB at hq
  split at hq
  · rename_i v hv
    cases v with
    | true =>
      obtain ⟨x, hr, hq⟩ := hq
      exact ⟨_, Zgu true hv hr, hq⟩
    | false =>
      obtain ⟨x, hr, hq⟩ := hq
      exact ⟨_, Zgu false hv hr, hq⟩
  · exact hq.elim
def Ztd (I : Nat → Tr D → H → Prop) (n : Nat) (Q : UD) : UD := fun e t h =>
  match e with
  | .normal => ∃ m, m < n ∧ I m t h
  | .exit i => Q (.exit i) t h
  | .ret => Q .ret t h
theorem VA {I : Nat → Tr D → H → Prop} {Q : UD} : Ztd I n Q .normal t h ↔ ∃ m, m < n ∧ I m t h := Iff.rfl
theorem VB {I : Nat → Tr D → H → Prop} {Q : UD} : Ztd I n Q (.exit i) t h ↔ Q (.exit i) t h := Iff.rfl
theorem Vz {I : Nat → Tr D → H → Prop} {Q : UD} : Ztd I n Q .ret t h ↔ Q .ret t h := Iff.rfl
theorem Z10 (I : Nat → Tr D → H → Prop) {n : Nat} {t : Tr D} {h : H} (hi : I n t h) (hb : ∀ n t h, I n t h → VP E T a t h (Ztd I n Q) R) : VP E T (Xi a) t h Q R := by
  induction n using Nat.strongRecOn generalizing t h with
  | ind n ih =>
    obtain ⟨x, hr, hq⟩ := hb n t h hi
    cases x with
    | out e t1 h1 => cases e with
      | normal =>
        obtain ⟨m, hm, hq⟩ := hq
        obtain ⟨x, hr', hq⟩ := ih m hm hq
        exact ⟨_, Zn6 hr hr', hq⟩
      | exit i => exact ⟨_, Zbc hr trivial, hq⟩
      | ret => exact ⟨_, Zbc hr trivial, hq⟩
    | panic d h1 => exact ⟨_, Zg8 hr, hq⟩
    | fail w => exact hq.elim
theorem Zp {f : Nat} {ss : List (D → Tr D → Tr D)} {res : Tr D → H → O D} {body : FC} {args : List D} {Q : D → H → Prop} (hT : T f = Uz ss res body) (hq : VP E T body (Zcw 0 ss args .nil) h (Lfn res Q) R) : VC E T f args h Q R := by
  obtain ⟨x, hr, hq⟩ := hq
  have fin : ∀ e t1 h1, ends e → Uw E T body (Zcw 0 ss args .nil) h (.out e t1 h1) → sC (res t1 h1) Q → VC E T f args h Q R := by
    intro e t1 h1 he hr hq
    cases ho : res t1 h1 with
    | ok d h2 => rw [ho] at hq; exact ⟨.ok d h2, ev_fn hT hr he ho, hq⟩
    | panic d h2 => rw [ho] at hq; exact hq.elim
    | fail w => rw [ho] at hq; exact hq.elim
  cases x with
  | out e t1 h1 => cases e with
    | normal => exact fin .normal _ _ trivial hr hq
    | exit i => exact hq.elim
    | ret => exact fin .ret _ _ trivial hr hq
  | panic d h1 =>
    obtain ⟨N, hN⟩ := hr
    refine ⟨.panic d h1, ⟨N + 1, fun n hn => ?_⟩, hq⟩
    cases n with
    | zero => omega
    | succ n =>
      show T f E n (ZY E T n) args h = _
      rw [hT]
      show XT.casesOn (motive := fun _ => O D) (body E (ZY E T n) n (Zcw 0 ss args .nil) h) _ _ _ = _
      rw [hN n n (by omega) (by omega)]
  | fail w => exact hq.elim
theorem Zcj {f : Nat} {g : List D → H → O D} {args : List D} {Q : D → H → Prop} (hT : T f = Xb g) (hq : VO Q R (g args h)) : VC E T f args h Q R := ⟨_, ev_lib hT rfl, hq⟩
end
variable {p : D → Tr D → Tr D} {k : FR} {kd : FD} {recs : List Rec} {t : Tr D} {h : H} {Q : UD} {R : Y1} {g g1 g2 g3 : Tr D → D} {i : Nat} {inc : List Nat}
theorem Zdv : VR E T (fo (ZC g) p k) t h Q R ↔ VR E T k (p (g t) t) h Q R := YH fun _ => rfl
theorem UJ : VR E T (fo (u1 YI g) p k) t h Q R ↔ vO E T (Zhr (g t) h) p k t Q R := by rw [← Zvf (E := E) (c := ZD) (a := act t)]; exact YH fun _ => rfl
theorem Zdx {n : Nat} : VR E T (fo (u1 (ZL n) g) p k) t h Q R ↔ vO E T (oFa n (g t) h) p k t Q R := by rw [← Zzo (E := E) (c := ZD) (a := act t)]; exact YH fun _ => rfl
theorem UH : VR E T (fo (u1 Zo g) p k) t h Q R ↔ vO E T (Zz6 (g t) h) p k t Q R := by rw [← Zve (E := E) (c := ZD) (a := act t)]; exact YH fun _ => rfl
theorem UQ {n : Nat} : VR E T (fo (u1 (Zc9 n) g) p k) t h Q R ↔ vO E T (Zxd n (g t) h) p k t Q R := by rw [← Zvh (E := E) (c := ZD) (a := act t)]; exact YH fun _ => rfl
theorem UG : VR E T (fo (u1 (Zft .not) g) p k) t h Q R ↔ vO E T (oNot E (g t) h) p k t Q R := YH fun _ => rfl
theorem UM {n : Nat} : VR E T (fo (u2 (Ym n) g1 g2) p k) t h Q R ↔ vO E T (Zbw n (g1 t) (g2 t) h) p k t Q R := by rw [← Zvg (E := E) (c := ZD) (a := act t)]; exact YH fun _ => rfl
theorem Zdu {n : Nat} : VR E T (fo (uo (Zf4 n) g1 none (some g2)) p k) t h Q R ↔ vO E T (oSl n (g1 t) (g2 t) h) p k t Q R := by rw [← Zzm (E := E) (c := ZD) (a := act t)]; exact YH fun _ => rfl
theorem UL : VR E T (fo (ZO g) p k) t h Q R ↔ vO E T (Zvt (Zi h (g t) 1) h) p k t Q R := by rw [← Z0v (E := E)]; exact YH fun _ => rfl
theorem UK {n : Nat} : VR E T (fo (Yy n g) p k) t h Q R ↔ vO E T (Zvs (Zi h (g t) n) h) p k t Q R := by rw [← Z0u (E := E)]; exact YH fun _ => rfl
theorem Zdt {n : Nat} : VR E T (fo (ZV n g1 g2) p k) t h Q R ↔ vO E T (oSt n (g1 t) (g2 t) h) p k t Q R := by rw [← Z0r (E := E) (c := ZD)]; exact YH fun _ => rfl
theorem Wa {ty : TypeId} {z : List D} : VR E T (fo (ZN ty z) p k) t h Q R ↔ VR E T k (p (.ptr h.next 0) t) (Ua h (.cells ty z)) Q R := YH fun _ => rfl
theorem US {ty : TypeId} : VR E T (fo (UA ty g) p k) t h Q R ↔ VR E T k (p (.ptr h.next 0) t) (Ua h (.cells ty (g t).cells)) Q R := by rw [← Zci]; exact YH fun _ => rfl
theorem W7 : VR E T (fo Zm1 p k) t h Q R ↔ VR E T k (p (.map h.next) t) (Ua h (.map [])) Q R := YH fun _ => rfl
theorem UN {f : IntKind → Int → Int → D} {op : BinOp} {ty : TypeId} {ox oy : Operand} : VR E T (fo (Zq f op ty ox oy g1 g2) p k) t h Q R ↔ vO E T (Zfu E f op ty ox oy (g1 t) (g2 t) h) p k t Q R := by rw [← Zzr (E := E) (c := ZD)]; exact YH fun _ => rfl
theorem V0 {op : BinOp} {ty : TypeId} {ox oy : Operand} : VR E T (fo (Zpj op ty ox oy g1 g2) p k) t h Q R ↔ vO E T (Uy (Zbs E op ty ox oy (g1 t) (g2 t)) h "bin") p k t Q R := YH fun _ => rfl
theorem Zac {f : IntKind → Int → Int → D} {op : BinOp} {ty : TypeId} {ox oy : Operand} : VD E T (Zu (Zq f op ty ox oy g1 g2) p kd) recs t h Q R ↔ vD E T (Zfu E f op ty ox oy (g1 t) (g2 t) h) p kd recs t Q R := by rw [← Zzr (E := E) (c := ZD)]; exact VI fun _ => rfl
theorem V1 : VR E T (fo (Xa g1 g2 g3) p k) t h Q R ↔ vO E T (Zvq (g1 t) (g2 t) (g3 t) h) p k t Q R := by rw [← Zv6 (E := E) (c := ZD)]; exact YH fun _ => rfl
theorem W9 {z : List D} {ps : List (Nat × Nat × (Tr D → D))} : VR E T (fo (YA z ps) p k) t h Q R ↔ vO E T (Zt5 (WK t z ps) h) p k t Q R := by rw [← Zff]; exact YH fun _ => rfl
theorem YL {e : TypeId} {len : Nat} {z : List D} {ps : List (Nat × Nat × (Tr D → D))} : VR E T (fo (XK e len z ps) p k) t h Q R ↔ vO E T (Zmj (WK t z ps) e len h) p k t Q R := by rw [← Zff]; exact YH fun _ => rfl
theorem V3 {z : D} : VR E T (fo (u2 (fun x k => Zdk 0 z x k true) g1 g2) p k) t h Q R ↔ vO E T (Zz8 (E := E) z (g1 t) (g2 t) h) p k t Q R := YH fun _ => rfl
theorem Zbi {e : TypeId} {size bytes : Nat} {z : List D} : VR E T (fo (u2 (Zje e size bytes z) g1 g2) p k) t h Q R ↔ vO E T (oMk (E := E) e size bytes z (g1 t) (g2 t) h) p k t Q R := YH fun _ => rfl
theorem UU {e : TypeId} {size bytes : Nat} : VR E T (fo (u2 (Zbl e size bytes) g1 g2) p k) t h Q R ↔ vO E T (Zht e size bytes (g1 t) (g2 t) h) p k t Q R := by rw [← Zvi (E := E) (c := ZD) (a := act t)]; exact YH fun _ => rfl
theorem Zdz : VD E T (Zu (ZC g) p kd) recs t h Q R ↔ VD E T kd recs (p (g t) t) h Q R := VI fun _ => rfl
theorem Zd0 {n : Nat} : VD E T (Zu (u1 (ZL n) g) p kd) recs t h Q R ↔ vD E T (oFa n (g t) h) p kd recs t Q R := by rw [← Zzo (E := E) (c := ZD) (a := act t)]; exact VI fun _ => rfl
theorem UW : VD E T (Zu (u1 Zo g) p kd) recs t h Q R ↔ vD E T (Zz6 (g t) h) p kd recs t Q R := by rw [← Zve (E := E) (c := ZD) (a := act t)]; exact VI fun _ => rfl
theorem Zaf {n : Nat} : VD E T (Zu (u1 (Zc9 n) g) p kd) recs t h Q R ↔ vD E T (Zxd n (g t) h) p kd recs t Q R := by rw [← Zvh (E := E) (c := ZD) (a := act t)]; exact VI fun _ => rfl
theorem Zab {n : Nat} : VD E T (Zu (u2 (Ym n) g1 g2) p kd) recs t h Q R ↔ vD E T (Zbw n (g1 t) (g2 t) h) p kd recs t Q R := by rw [← Zvg (E := E) (c := ZD) (a := act t)]; exact VI fun _ => rfl
theorem Wc {ty : TypeId} {z : List D} : VD E T (Zu (ZN ty z) p kd) recs t h Q R ↔ VD E T kd recs (p (.ptr h.next 0) t) (Ua h (.cells ty z)) Q R := VI fun _ => rfl
theorem Wb {z : List D} {ps : List (Nat × Nat × (Tr D → D))} : VD E T (Zu (YA z ps) p kd) recs t h Q R ↔ vD E T (Zt5 (WK t z ps) h) p kd recs t Q R := by rw [← Zff]; exact VI fun _ => rfl
theorem YM {e : TypeId} {len : Nat} {z : List D} {ps : List (Nat × Nat × (Tr D → D))} : VD E T (Zu (XK e len z ps) p kd) recs t h Q R ↔ vD E T (Zmj (WK t z ps) e len h) p kd recs t Q R := by rw [← Zff]; exact VI fun _ => rfl
theorem Zaa {n : Nat} : VD E T (Xj i inc n g1 (ZO g) p kd) recs t h Q R ↔ vRd E T (Zvt (Zi h (g t) 1) h) (Zi h (g1 t) n) i inc (g1 t) p kd recs t Q R := by rw [← Z0v (E := E)]; exact vd_rd fun _ => rfl
theorem UZ {n m : Nat} : VD E T (Xj i inc n g1 (Yy m g) p kd) recs t h Q R ↔ vRd E T (Zvs (Zi h (g t) m) h) (Zi h (g1 t) n) i inc (g1 t) p kd recs t Q R := by rw [← Z0u (E := E)]; exact vd_rd fun _ => rfl
theorem Zdy {n : Nat} : VD E T (Zfw i inc (ZV n g1 g2) p kd) recs t h Q R ↔ vL E T (oSt n (g1 t) (g2 t) h) i inc h p kd recs t Q R := by rw [← Z0r (E := E) (c := ZD)]; exact Zye fun _ => rfl
theorem Va : VD E T (Zfw i inc (u3 (Ze3 0) g1 g2 g3) p kd) recs t h Q R ↔ vL E T (Zz7 (E := E) (g1 t) (g2 t) (g3 t) h) i inc h p kd recs t Q R := Zye fun _ => rfl
theorem Zai {e : TypeId} {size bytes : Nat} : VD E T (Zfw i inc (u2 (Zbl e size bytes) g1 g2) p kd) recs t h Q R ↔ vL E T (Zht e size bytes (g1 t) (g2 t) h) i inc h p kd recs t Q R := by rw [← Zvi (E := E) (c := ZD) (a := act t)]; exact Zye fun _ => rfl
theorem UT : VR E T (fo (u1 Zkf g) p k) t h Q R ↔ vO E T (Z0b (g t) h) p k t Q R := YH fun _ => rfl
theorem V4 : VR E T (fo (u1 WD g) p k) t h Q R ↔ vO E T (Zvr (g t) h) p k t Q R := by rw [← Zrp (E := E) (c := ZD) (a := act t)]; exact YH fun _ => rfl
theorem X8 {lo hi : Option (Tr D → D)} : VR E T (fo (Zbx g lo hi) p k) t h Q R ↔ vO E T (Zf9 (lo.map (· t)) (hi.map (· t)) (g t) h) p k t Q R := by
  rw [← Zep (E := E) ZD]
  exact YH fun c => by rw [Zep, Zep]
def Zvw (kk : IntKind) (d : D) (h : H) : O D :=
  match d with
  | .int _ n => .ok (.int kk (Zb1 kk n)) h
  | _ => .fail "cint"
theorem Zwa {E : Env} {kk : IntKind} {g : Tr D → D} {t : Tr D} {h : H} {c : Call} : WT kk g E c t h = Zvw kk (g t) h := by
  unfold WT
  cases g t <;> rfl
theorem V7 {kk : IntKind} : VR E T (fo (WT kk g) p k) t h Q R ↔ vO E T (Zvw kk (g t) h) p k t Q R := by rw [← Zwa (E := E) (c := ZD)]; exact YH fun _ => rfl
theorem Vd {kk : IntKind} : VD E T (Zu (WT kk g) p kd) recs t h Q R ↔ vD E T (Zvw kk (g t) h) p kd recs t Q R := by rw [← Zwa (E := E) (c := ZD)]; exact VI fun _ => rfl
theorem Vv {kk ki : IntKind} {n : Int} : Zvw kk (.int ki n) h = .ok (.int kk (Zb1 kk n)) h := rfl
end
end
end Go.Abs
