/- The reckoner's code made quick: closures in the place of tables. -/
import Derived.Test.YthifolidfjpdkaaGreatDoorNdRun
import Derived.Test.YthifolidfjpdkaaGreatDoorNdLib
set_option linter.unusedVariables false
set_option linter.unusedSimpArgs false
namespace Go.Abs
noncomputable section
def act (t : Tr D) : AAct := ⟨t,[],none,false⟩
def gV (t : Tr D) : D := Tr.rec (motive := fun _ => D) ZD (fun _ v _ _ _ => Option.rec (motive := fun _ => D) ZD (fun d => d) v) t
def gL (k : Tr D → D) (t : Tr D) : D := Tr.rec (motive := fun _ => D) ZD (fun l _ _ _ _ => k l) t
def gR (k : Tr D → D) (t : Tr D) : D := Tr.rec (motive := fun _ => D) ZD (fun _ _ r _ _ => k r) t
def g0 (_ : Tr D) : D := ZD
def gF : Nat → Nat → Tr D → D
  | 0,_ => g0
  | f + 1,n => bif Nat.beq n 0 then gV else bif Nat.beq (n % 2) 1 then gL (gF f (n / 2)) else gR (gF f (n / 2 - 1))
def Z4y (o : Option D) : D :=
  match o with
  | some d => d
  | none => ZD
theorem Zra : ∀ (f n : Nat) (t : Tr D),n < f → gF f n t = Z4y (t.get n)
  | 0,n,t,h => by omega
  | f + 1,n,t,h => by
    by_cases h0 : n = 0
    · subst h0
      cases t with
      | nil => rfl
      | node l v r => cases v <;> rfl
    · have hb : Nat.beq n 0 = false := by cases hb : Nat.beq n 0 with
        | false => rfl
        | true => exact absurd (Nat.eq_of_beq_eq_true hb) h0
      cases hm : Nat.beq (n % 2) 1 with
      | true =>
        simp only [gF,hb,hm,cond_true,cond_false]
        cases t with
        | nil => rfl
        | node l v r =>
          simp only [gL,Tr.get,hb,hm,cond_true,cond_false]
          exact Zra f (n / 2) l (by omega)
      | false =>
        simp only [gF,hb,hm,cond_false]
        cases t with
        | nil => rfl
        | node l v r =>
          simp only [gR,Tr.get,hb,hm,cond_false]
          exact Zra f (n / 2 - 1) r (by omega)
def kD (d : D) (_ : Tr D) : D := d
def fe : Opd → Tr D → D
  | .t n => gF (n + 1) n
  | .d d => kD d
theorem YC (x : Opd) (t : Tr D) : fe x t = (act t).eval x := by
  cases x with
  | t n => exact Zra (n + 1) n t (Nat.lt_succ_self n)
  | d d => rfl
def pV (v : D) (t : Tr D) : Tr D := Tr.rec (motive := fun _ => Tr D) (.node .nil (some v) .nil) (fun l _ r _ _ => .node l (some v) r) t
def pL (k : D → Tr D → Tr D) (v : D) (t : Tr D) : Tr D := Tr.rec (motive := fun _ => Tr D) (.node (k v .nil) none .nil) (fun l u r _ _ => .node (k v l) u r) t
def pR (k : D → Tr D → Tr D) (v : D) (t : Tr D) : Tr D := Tr.rec (motive := fun _ => Tr D) (.node .nil none (k v .nil)) (fun l u r _ _ => .node l u (k v r)) t
def p0 (_ : D) (t : Tr D) : Tr D := t
def pF : Nat → Nat → D → Tr D → Tr D
  | 0,_ => p0
  | f + 1,n => bif Nat.beq n 0 then pV else bif Nat.beq (n % 2) 1 then pL (pF f (n / 2)) else pR (pF f (n / 2 - 1))
theorem Zoi : ∀ (f n : Nat) (v : D) (t : Tr D),pF f n v t = Tr.setF f t n (some v)
  | 0,n,v,t => by cases t <;> rfl
  | f + 1,n,v,t => by
    cases hb : Nat.beq n 0 with
    | true => simp only [pF,hb,cond_true]; cases t <;> simp only [pV,Tr.setF,hb,cond_true]
    | false => cases hm : Nat.beq (n % 2) 1 with
      | true =>
        simp only [pF,hb,hm,cond_true,cond_false]
        cases t <;> simp only [pL,Tr.setF,hb,hm,cond_true,cond_false,Zoi f]
      | false =>
        simp only [pF,hb,hm,cond_false]
        cases t <;> simp only [pR,Tr.setF,hb,hm,cond_false,Zoi f]
def Zfu : Option Nat → D → Tr D → Tr D
  | none => p0
  | some n => pF (n + 1) n
theorem Ze2 (dst : Option Nat) (d : D) (t : Tr D) : act (Zfu dst d t) = (act t).put dst d := by
  cases dst with
  | none => rfl
  | some n => simp only [Zfu,AAct.put,act,Tr.set,Zoi]
def Zky (gs : List (Tr D → D)) (t : Tr D) : List D := List.rec (motive := fun _ => List D) [] (fun g _ ih => g t :: ih) gs
theorem Zs2 (l : List Opd) (t : Tr D) : Zky (l.map fe) t = (act t).evals l := by
  induction l with
  | nil => rfl
  | cons x r ih =>
    show fe x t :: Zky (r.map fe) t = _
    rw [ih,YC]; rfl
def Zth (k : Tr AObj → Nat → Option AObj) (t : Tr AObj) (n : Nat) : Option AObj :=
  Tr.rec (motive := fun _ => (Tr AObj → Nat → Option AObj) → Nat → Option AObj) (fun _ _ => none)
    (fun l v r _ _ k n => Bool.rec (motive := fun _ => Tr AObj → Option AObj → Tr AObj → (Tr AObj → Nat → Option AObj) → Nat → Option AObj)
      (fun l _ r k n => Bool.rec (motive := fun _ => Tr AObj → Tr AObj → (Tr AObj → Nat → Option AObj) → Nat → Option AObj) (fun _ r k n => k r (Nat.sub (Nat.div n 2) 1)) (fun l _ k n => k l (Nat.div n 2)) (Nat.beq (Nat.mod n 2) 1) l r k n)
      (fun _ v _ _ _ => v) (Nat.beq n 0) l v r k n) t k n
theorem Zbd {k : Tr AObj → Nat → Option AObj} (hk : ∀ t n,k t n = t.get n) (t : Tr AObj) (n : Nat) : Zth k t n = t.get n := by
  cases t with
  | nil => rfl
  | node l v r =>
    have e : Nat.beq (n % 2) 1 = Nat.beq (Nat.mod n 2) 1 := rfl
    have e1 : k l (Nat.div n 2) = l.get (n / 2) := hk ..
    have e2 : k r (Nat.sub (Nat.div n 2) 1) = r.get (n / 2 - 1) := hk ..
    cases hb : Nat.beq n 0 with
    | true => simp only [Zth,Tr.get,hb,cond_true]
    | false =>
      cases hm : Nat.beq (Nat.mod n 2) 1 with
      | true => simp only [Zth,Tr.get,hb,hm,e,cond_true,cond_false,e1]
      | false => simp only [Zth,Tr.get,hb,hm,e,cond_false,e2]
def hg0 : Tr AObj → Nat → Option AObj := Zth Tr.get
def hg1 : Tr AObj → Nat → Option AObj := Zth hg0
def hg2 : Tr AObj → Nat → Option AObj := Zth hg1
def hg3 : Tr AObj → Nat → Option AObj := Zth hg2
def hg4 : Tr AObj → Nat → Option AObj := Zth hg3
def hg5 : Tr AObj → Nat → Option AObj := Zth hg4
def hg6 : Tr AObj → Nat → Option AObj := Zth hg5
def hg7 : Tr AObj → Nat → Option AObj := Zth hg6
def hg8 : Tr AObj → Nat → Option AObj := Zth hg7
def hg9 : Tr AObj → Nat → Option AObj := Zth hg8
def hg10 : Tr AObj → Nat → Option AObj := Zth hg9
def hg11 : Tr AObj → Nat → Option AObj := Zth hg10
def hg12 : Tr AObj → Nat → Option AObj := Zth hg11
def hget : Tr AObj → Nat → Option AObj := Zth hg12
theorem ZO (t : Tr AObj) (n : Nat) : hget t n = t.get n :=
  Zbd (Zbd (Zbd (Zbd (Zbd (Zbd (Zbd (Zbd (Zbd (Zbd (Zbd (Zbd (Zbd (Zbd fun _ _ => rfl))))))))))))) t n
def Zq8 (k : Nat → Tr AObj → Nat → AObj → Tr AObj) (f : Nat) (t : Tr AObj) (n : Nat) (v : AObj) : Tr AObj :=
  Tr.rec (motive := fun _ => (Nat → Tr AObj → Nat → AObj → Tr AObj) → Nat → Nat → AObj → Tr AObj)
    (fun k f n v => Bool.rec (motive := fun _ => (Nat → Tr AObj → Nat → AObj → Tr AObj) → Nat → Nat → AObj → Tr AObj)
      (fun k f n v => Bool.rec (motive := fun _ => (Nat → Tr AObj → Nat → AObj → Tr AObj) → Nat → Nat → AObj → Tr AObj) (fun k f n v => .node .nil none (k (Nat.sub f 1) .nil (Nat.sub (Nat.div n 2) 1) v)) (fun k f n v => .node (k (Nat.sub f 1) .nil (Nat.div n 2) v) none .nil) (Nat.beq (Nat.mod n 2) 1) k f n v)
      (fun _ _ _ v => .node .nil (some v) .nil) (Nat.beq n 0) k f n v)
    (fun l u r _ _ k f n v => Bool.rec (motive := fun _ => Tr AObj → Option AObj → Tr AObj → (Nat → Tr AObj → Nat → AObj → Tr AObj) → Nat → Nat → AObj → Tr AObj)
      (fun l u r k f n v => Bool.rec (motive := fun _ => Tr AObj → Option AObj → Tr AObj → (Nat → Tr AObj → Nat → AObj → Tr AObj) → Nat → Nat → AObj → Tr AObj) (fun l u r k f n v => .node l u (k (Nat.sub f 1) r (Nat.sub (Nat.div n 2) 1) v)) (fun l u r k f n v => .node (k (Nat.sub f 1) l (Nat.div n 2) v) u r) (Nat.beq (Nat.mod n 2) 1) l u r k f n v)
      (fun l _ r _ _ _ v => .node l (some v) r) (Nat.beq n 0) l u r k f n v) t k f n v
def hpOk (k : Nat → Tr AObj → Nat → AObj → Tr AObj) : Prop := ∀ f t n v,n < f → k f t n v = Tr.setF f t n (some v)
theorem Zbc {k : Nat → Tr AObj → Nat → AObj → Tr AObj} (hk : hpOk k) : hpOk (Zq8 k) := by
  intro f t n v hn
  obtain ⟨f,rfl⟩ : ∃ m,f = m + 1 := ⟨f - 1,by omega⟩
  cases hb : Nat.beq n 0 with
  | true => cases t <;> simp only [Zq8,Tr.setF,hb,cond_true]
  | false =>
    have h0 : n ≠ 0 := fun e => by subst e; cases hb
    have h1 : k f .nil (Nat.div n 2) v = Tr.setF f .nil (n / 2) (some v) := hk f .nil (n / 2) v (by omega)
    have h2 : k f .nil (Nat.sub (Nat.div n 2) 1) v = Tr.setF f .nil (n / 2 - 1) (some v) := hk f .nil (n / 2 - 1) v (by omega)
    have hf : Nat.sub (f + 1) 1 = f := rfl
    cases hm : Nat.beq (n % 2) 1 with
    | true =>
      have hm' : Nat.beq (Nat.mod n 2) 1 = true := hm
      cases t with
      | nil => simp only [Zq8,Tr.setF,hb,hm,hm',cond_true,cond_false,hf,h1]
      | node l u r =>
        have h3 : k f l (Nat.div n 2) v = Tr.setF f l (n / 2) (some v) := hk f l (n / 2) v (by omega)
        simp only [Zq8,Tr.setF,hb,hm,hm',cond_true,cond_false,hf,h3]
    | false =>
      have hm' : Nat.beq (Nat.mod n 2) 1 = false := hm
      cases t with
      | nil => simp only [Zq8,Tr.setF,hb,hm,hm',cond_false,hf,h2]
      | node l u r =>
        have h3 : k f r (Nat.sub (Nat.div n 2) 1) v = Tr.setF f r (n / 2 - 1) (some v) := hk f r (n / 2 - 1) v (by omega)
        simp only [Zq8,Tr.setF,hb,hm,hm',cond_false,hf,h3]
def hpE (f : Nat) (t : Tr AObj) (n : Nat) (v : AObj) : Tr AObj := Tr.setF f t n (some v)
def hp0 := Zq8 hpE
def hp1 := Zq8 hp0
def Zpu := Zq8 hp1
def hp3 := Zq8 Zpu
def hp4 := Zq8 hp3
def hp5 := Zq8 hp4
def hp6 := Zq8 hp5
def hp7 := Zq8 hp6
def hp8 := Zq8 hp7
def hp9 := Zq8 hp8
def hp10 := Zq8 hp9
def hp11 := Zq8 hp10
def hp12 := Zq8 hp11
def hset (t : Tr AObj) (n : Nat) (v : AObj) : Tr AObj := Zq8 hp12 (Nat.add n 1) t n v
theorem Zik (t : Tr AObj) (n : Nat) (v : AObj) : hset t n v = t.set n (some v) :=
  Zbc (Zbc (Zbc (Zbc (Zbc (Zbc (Zbc (Zbc (Zbc (Zbc (Zbc (Zbc (Zbc (Zbc (fun _ _ _ _ _ => rfl)))))))))))))) _ _ _ _ (Nat.lt_succ_self n)
def YF (h : H) (l : Nat) (o : AObj) : H := ⟨h.next,hset h.mem l o⟩
theorem UN (h : H) (l : Nat) (o : AObj) : YF h l o = h.put l o := by simp only [YF,H.put,Zik]
def Vr (h : H) (o : AObj) : H := ⟨Nat.add h.next 1,hset h.mem h.next o⟩
theorem Zbe (h : H) (o : AObj) : h.new o = (h.next,Vr h o) := by simp only [Vr,H.new,Zik]
end
end Go.Abs
namespace Go.Abs
noncomputable section
section
variable {α β : Type}
def Zav (l : List α) (k : α → List α → β) (z : β) : β := List.rec (motive := fun _ => β) z (fun a r _ => k a r) l
def c8 (l : List α) (k : List α → β) (z : β) : β :=
  List.rec (motive := fun _ => β) z (fun _ r _ => List.rec (motive := fun _ => β) z (fun _ r _ => List.rec (motive := fun _ => β) z (fun _ r _ => List.rec (motive := fun _ => β) z (fun _ r _ =>
  List.rec (motive := fun _ => β) z (fun _ r _ => List.rec (motive := fun _ => β) z (fun _ r _ => List.rec (motive := fun _ => β) z (fun _ r _ => List.rec (motive := fun _ => β) z (fun _ r _ => k r) r) r) r) r) r) r) r) l
theorem c8_eq (l : List α) (k : List α → β) (z : β) : c8 l k z = if 8 ≤ l.length then k (l.drop 8) else z := by
  rcases l with _ | ⟨_,_ | ⟨_,_ | ⟨_,_ | ⟨_,_ | ⟨_,_ | ⟨_,_ | ⟨_,_ | ⟨_,l⟩⟩⟩⟩⟩⟩⟩⟩
  all_goals first
    | rfl
    | (show k l = _; rw [if_pos (by simp only [List.length_cons]; omega)]; rfl)
def Z4e (l : List α) : Nat → Nat := List.rec (motive := fun _ => Nat → Nat) (fun a => a) (fun _ _ ih a => ih (Nat.succ a)) l
theorem Zhr : ∀ (l : List α) (a : Nat),Z4e l a = a + l.length
  | [],a => rfl
  | _ :: r,a => (Zhr r (Nat.succ a)).trans (by simp only [List.length_cons]; omega)
def lnN (n : Nat) : List α → Nat → Nat := Nat.rec (motive := fun _ => List α → Nat → Nat) Z4e (fun _ ih l a => c8 l (fun r => ih r (Nat.add a 8)) (Z4e l a)) n
theorem Z4f : ∀ (n : Nat) (l : List α) (a : Nat),lnN n l a = a + l.length
  | 0,l,a => Zhr l a
  | n + 1,l,a => by
    show c8 l (fun r => lnN n r (Nat.add a 8)) (Z4e l a) = _
    rw [c8_eq,Zhr]
    split
    · rw [Z4f n]
      show (a + 8) + _ = _
      rw [List.length_drop]; omega
    · rfl
def Ztg (l : List α) : Nat := lnN 100000 l 0
theorem Zls (l : List α) : Ztg l = l.length := by rw [Ztg,Z4f]; omega
def Z81 (n : Nat) : List α → List α := Nat.rec (motive := fun _ => List α → List α) (fun l => l) (fun _ ih l => List.rec (motive := fun _ => List α) [] (fun _ r _ => ih r) l) n
theorem Zly : ∀ (n : Nat) (l : List α),Z81 n l = l.drop n
  | 0,l => rfl
  | n + 1,[] => rfl
  | n + 1,_ :: r => Zly n r
def dp8 (n : Nat) : List α → List α := Nat.rec (motive := fun _ => List α → List α) (fun l => l) (fun _ ih l => c8 l ih []) n
theorem Z5o : ∀ (n : Nat) (l : List α),dp8 n l = l.drop (8 * n)
  | 0,l => rfl
  | n + 1,l => by
    show c8 l (dp8 n) [] = _
    rw [c8_eq]
    split
    · rw [Z5o n,List.drop_drop]; congr 1; omega
    · rw [List.drop_eq_nil_of_le (by omega)]
def Z1k (n : Nat) (l : List α) : List α := bif Nat.ble n 15 then Z81 n l else Z81 (Nat.mod n 8) (dp8 (Nat.div n 8) l)
theorem Zjw (n : Nat) (l : List α) : Z1k n l = l.drop n := by
  unfold Z1k
  rw [Zly,Zly,Z5o,List.drop_drop]
  cases Nat.ble n 15 with
  | true => rfl
  | false =>
    show List.drop (8 * (n / 8) + n % 8) l = _
    congr 1; omega
def tkF (n : Nat) : List α → List α := Nat.rec (motive := fun _ => List α → List α) (fun _ => []) (fun _ ih l => List.rec (motive := fun _ => List α) [] (fun a r _ => a :: ih r) l) n
theorem Z2c : ∀ (n : Nat) (l : List α),tkF n l = l.take n
  | 0,l => rfl
  | n + 1,[] => rfl
  | n + 1,a :: r => congrArg (a :: ·) (Z2c n r)
def apF (l m : List α) : List α := List.rec (motive := fun _ => List α) m (fun a _ ih => a :: ih) l
theorem Zpn : ∀ (l m : List α),apF l m = l ++ m
  | [],m => rfl
  | a :: r,m => congrArg (a :: ·) (Zpn r m)
def Z6f (n : Nat) : List α → Option (List α) := Nat.rec (motive := fun _ => List α → Option (List α)) (fun _ => some []) (fun _ ih l => List.rec (motive := fun _ => Option (List α)) none (fun a r _ => Option.rec (motive := fun _ => Option (List α)) none (fun s => some (a :: s)) (ih r)) l) n
theorem Zjs : ∀ (n : Nat) (l : List α),Z6f n l = bif Nat.beq (l.take n).length n then some (l.take n) else none
  | 0,l => rfl
  | n + 1,[] => rfl
  | n + 1,a :: r => by
    show Option.rec (motive := fun _ => Option (List α)) none (fun s => some (a :: s)) (Z6f n r) = _
    rw [Zjs n r]
    show _ = bif Nat.beq (r.take n).length n then some (a :: r.take n) else none
    cases Nat.beq (r.take n).length n <;> rfl
def ovF (xs : List α) : List α → Option (List α) := List.rec (motive := fun _ => List α → Option (List α)) (fun cs => some cs) (fun x _ ih cs => List.rec (motive := fun _ => Option (List α)) none (fun _ r _ => Option.rec (motive := fun _ => Option (List α)) none (fun s => some (x :: s)) (ih r)) cs) xs
theorem Z3z : ∀ (xs cs : List α),ovF xs cs = bif Nat.ble xs.length cs.length then some (xs ++ cs.drop xs.length) else none
  | [],cs => by
    have : Nat.ble ([] : List α).length cs.length = true := by rw [Nat.ble_eq]; exact Nat.zero_le _
    rw [this]; rfl
  | x :: xs,[] => rfl
  | x :: xs,c :: cs => by
    show Option.rec (motive := fun _ => Option (List α)) none (fun s => some (x :: s)) (ovF xs cs) = _
    rw [Z3z xs cs]
    show _ = bif Nat.ble xs.length cs.length then some (x :: (xs ++ cs.drop xs.length)) else none
    cases Nat.ble xs.length cs.length <;> rfl
def paF (off : Nat) : List α → List α → Option (List α) := Nat.rec (motive := fun _ => List α → List α → Option (List α)) (fun xs cs => ovF xs cs) (fun _ ih xs cs => List.rec (motive := fun _ => Option (List α)) none (fun c r _ => Option.rec (motive := fun _ => Option (List α)) none (fun s => some (c :: s)) (ih xs r)) cs) off
end
theorem Zsi : ∀ (off : Nat) (xs cs : List D),paF off xs cs = patch cs off xs
  | 0,xs,cs => by
    show ovF xs cs = _
    rw [Z3z,patch]
    simp only [Nat.zero_add,List.take_zero,List.nil_append]
  | off + 1,xs,[] => by
    show none = _
    rw [patch,show Nat.ble (off + 1 + xs.length) ([] : List D).length = false from by
      cases h : Nat.ble (off + 1 + xs.length) ([] : List D).length with
      | false => rfl
      | true => have := Nat.le_of_ble_eq_true h; simp only [List.length_nil] at this; omega]
    rfl
  | off + 1,xs,c :: cs => by
    show Option.rec (motive := fun _ => Option (List D)) none (fun s => some (c :: s)) (paF off xs cs) = _
    rw [Zsi off xs cs,patch,patch]
    rw [show off + 1 + xs.length = (off + xs.length) + 1 by omega]
    show _ = bif Nat.ble (off + xs.length) cs.length then some ((c :: cs.take off ++ xs) ++ cs.drop (off + xs.length)) else none
    cases Nat.ble (off + xs.length) cs.length <;> rfl
def oneV (x : Value) : Bool := Value.rec (motive_1 := fun _ => Bool) (motive_2 := fun _ => Unit) (motive_3 := fun _ => Unit) (fun _ => true) (fun _ _ => true) (fun _ _ => true) (fun _ _ _ => true) (fun _ => true) (fun _ => true) (fun _ _ _ => true) (fun _ => true) (fun _ => true) (fun _ _ _ _ _ => true) true (fun _ _ _ => true) true (fun _ _ => false) (fun _ _ => false) (fun _ _ => ()) () (fun _ _ _ _ => ()) x
def oneQ (d : D) : Bool := D.rec (motive_1 := fun _ => Bool) (motive_2 := fun _ => Unit) (fun x => oneV x) (fun _ _ => true) (fun _ => true) (fun _ _ => true) (fun _ _ => true) (fun _ _ _ _ => true) (fun _ _ _ _ => true) (fun _ => true) (fun _ _ => false) (fun _ _ => false) (fun _ _ _ _ _ => true) (fun _ _ _ => true) () (fun _ _ _ _ => ()) d
theorem Z7u (d : D) : oneQ d = d.one := by
  cases d <;> try rfl
  rename_i x
  cases x <;> rfl
def cellsV (x : Value) : List D := Value.rec (motive_1 := fun _ => List D) (motive_2 := fun _ => Unit) (motive_3 := fun _ => Unit) (fun b => [.v (.bool b)]) (fun k n => [.v (.int k n)]) (fun k n => [.v (.float k n)]) (fun k a b => [.v (.complex k a b)]) (fun s => [.v (.string s)]) (fun a => [.v (.pointer a)]) (fun a l c => [.v (.slice a l c)]) (fun r => [.v (.map r)]) (fun r => [.v (.chan r)]) (fun f a b _ _ => [.v (.func f a b)]) [.v .nilFunc] (fun t v _ => [.v (.iface t v)]) [.v .nilIface] (fun cs _ => cs.toList.map .v) (fun l _ => [.v (.tuple l)]) (fun _ _ => ()) () (fun _ _ _ _ => ()) x
def Zlz (d : D) : List D := D.rec (motive_1 := fun _ => List D) (motive_2 := fun _ => Unit) (fun x => cellsV x) (fun k n => [.int k n]) (fun l => [.str l]) (fun l o => [.ptr l o]) (fun c _ => [.ep c]) (fun i n c _ => [.sl i n c]) (fun l o n c => [.row l o n c]) (fun l => [.map l]) (fun c _ => c) (fun c _ => [.tup c]) (fun f a b _ _ => [.func f a b]) (fun t d _ => [.iface t d]) () (fun _ _ _ _ => ()) d
theorem Zdz (d : D) : Zlz d = d.cells := by
  cases d <;> try rfl
  rename_i x
  cases x <;> rfl
def Z7v (l : List D) : Bool := List.rec (motive := fun _ => Bool) true (fun d _ ih => Bool.rec (motive := fun _ => Bool) false ih (oneQ d)) l
theorem Zm8 : ∀ l : List D,Z7v l = Y4 l
  | [] => rfl
  | d :: r => by
    show Bool.rec (motive := fun _ => Bool) false (Z7v r) (oneQ d) = (d.one && Y4 r)
    rw [Zm8 r,Z7u]
    cases d.one <;> rfl
def eqF (a : List Nat) : List Nat → Bool := List.rec (motive := fun _ => List Nat → Bool) (fun b => List.rec (motive := fun _ => Bool) true (fun _ _ _ => false) b) (fun x _ ih b => List.rec (motive := fun _ => Bool) false (fun y s _ => bif Nat.beq x y then ih s else false) b) a
theorem Zs4 : ∀ a b : List Nat,eqF a b = UQ a b
  | [],[] => rfl
  | [],_ :: _ => rfl
  | _ :: _,[] => rfl
  | x :: a,y :: b => by
    show (bif Nat.beq x y then eqF a b else false) = (Nat.beq x y && UQ a b)
    rw [Zs4 a b]
    cases Nat.beq x y <;> rfl
def Z0u (i : Nat) (l : List Nat) : Bool := List.rec (motive := fun _ => Bool) false (fun x _ ih => bif Nat.beq x i then true else ih) l
inductive XT where
  | out (e : AExit) (t : Tr D) (h : H)
  | panic (d : D) (h : H)
  | fail (why : String)
def Z84 (d : D) : (IntKind → Int → O D) → O D → O D := D.rec (motive_1 := fun _ => (IntKind → Int → O D) → O D → O D) (motive_2 := fun _ => Unit) (fun _ _ z => z) (fun a0 a1 k0 _ => k0 a0 a1) (fun _ _ z => z) (fun _ _ _ z => z) (fun _ _ _ z => z) (fun _ _ _ _ _ z => z) (fun _ _ _ _ _ z => z) (fun _ _ z => z) (fun _ _ _ z => z) (fun _ _ _ z => z) (fun _ _ _ _ _ _ z => z) (fun _ _ _ _ z => z) () (fun _ _ _ _ => ()) d
def dStr (d : D) : (List Nat → O D) → O D → O D := D.rec (motive_1 := fun _ => (List Nat → O D) → O D → O D) (motive_2 := fun _ => Unit) (fun _ _ z => z) (fun _ _ _ z => z) (fun a0 k0 _ => k0 a0) (fun _ _ _ z => z) (fun _ _ _ z => z) (fun _ _ _ _ _ z => z) (fun _ _ _ _ _ z => z) (fun _ _ z => z) (fun _ _ _ z => z) (fun _ _ _ z => z) (fun _ _ _ _ _ _ z => z) (fun _ _ _ _ z => z) () (fun _ _ _ _ => ()) d
def dPE (d : D) : (Nat → Nat → O D) → (List D → O D) → O D → O D := D.rec (motive_1 := fun _ => (Nat → Nat → O D) → (List D → O D) → O D → O D) (motive_2 := fun _ => Unit) (fun _ _ _ z => z) (fun _ _ _ _ z => z) (fun _ _ _ z => z) (fun a0 a1 k0 _ _ => k0 a0 a1) (fun a0 _ _ k1 _ => k1 a0) (fun _ _ _ _ _ _ z => z) (fun _ _ _ _ _ _ z => z) (fun _ _ _ z => z) (fun _ _ _ _ z => z) (fun _ _ _ _ z => z) (fun _ _ _ _ _ _ _ z => z) (fun _ _ _ _ _ z => z) () (fun _ _ _ _ => ()) d
def dPtr (d : D) : (Nat → Nat → O D) → O D → O D := D.rec (motive_1 := fun _ => (Nat → Nat → O D) → O D → O D) (motive_2 := fun _ => Unit) (fun _ _ z => z) (fun _ _ _ z => z) (fun _ _ z => z) (fun a0 a1 k0 _ => k0 a0 a1) (fun _ _ _ z => z) (fun _ _ _ _ _ z => z) (fun _ _ _ _ _ z => z) (fun _ _ z => z) (fun _ _ _ z => z) (fun _ _ _ z => z) (fun _ _ _ _ _ _ z => z) (fun _ _ _ _ z => z) () (fun _ _ _ _ => ()) d
def dAgg (d : D) : (List D → O D) → O D → O D := D.rec (motive_1 := fun _ => (List D → O D) → O D → O D) (motive_2 := fun _ => Unit) (fun _ _ z => z) (fun _ _ _ z => z) (fun _ _ z => z) (fun _ _ _ z => z) (fun _ _ _ z => z) (fun _ _ _ _ _ z => z) (fun _ _ _ _ _ z => z) (fun _ _ z => z) (fun a0 _ k0 _ => k0 a0) (fun _ _ _ z => z) (fun _ _ _ _ _ _ z => z) (fun _ _ _ _ z => z) () (fun _ _ _ _ => ()) d
def dTup (d : D) : (List D → O D) → O D → O D := D.rec (motive_1 := fun _ => (List D → O D) → O D → O D) (motive_2 := fun _ => Unit) (fun _ _ z => z) (fun _ _ _ z => z) (fun _ _ z => z) (fun _ _ _ z => z) (fun _ _ _ z => z) (fun _ _ _ _ _ z => z) (fun _ _ _ _ _ z => z) (fun _ _ z => z) (fun _ _ _ z => z) (fun a0 _ k0 _ => k0 a0) (fun _ _ _ _ _ _ z => z) (fun _ _ _ _ z => z) () (fun _ _ _ _ => ()) d
def dSl (d : D) : (Nat → Nat → List D → O D) → O D → O D := D.rec (motive_1 := fun _ => (Nat → Nat → List D → O D) → O D → O D) (motive_2 := fun _ => Unit) (fun _ _ z => z) (fun _ _ _ z => z) (fun _ _ z => z) (fun _ _ _ z => z) (fun _ _ _ z => z) (fun a0 a1 a2 _ k0 _ => k0 a0 a1 a2) (fun _ _ _ _ _ z => z) (fun _ _ z => z) (fun _ _ _ z => z) (fun _ _ _ z => z) (fun _ _ _ _ _ _ z => z) (fun _ _ _ _ z => z) () (fun _ _ _ _ => ()) d
def dIS (d : D) : (IntKind → Int → O D) → (List Nat → O D) → O D → O D := D.rec (motive_1 := fun _ => (IntKind → Int → O D) → (List Nat → O D) → O D → O D) (motive_2 := fun _ => Unit) (fun _ _ _ z => z) (fun a0 a1 k0 _ _ => k0 a0 a1) (fun a0 _ k1 _ => k1 a0) (fun _ _ _ _ z => z) (fun _ _ _ _ z => z) (fun _ _ _ _ _ _ z => z) (fun _ _ _ _ _ _ z => z) (fun _ _ _ z => z) (fun _ _ _ _ z => z) (fun _ _ _ _ z => z) (fun _ _ _ _ _ _ _ z => z) (fun _ _ _ _ _ z => z) () (fun _ _ _ _ => ()) d
def dBV (v : Value) : (Bool → O D) → O D → O D := Value.rec (motive_1 := fun _ => (Bool → O D) → O D → O D) (motive_2 := fun _ => Unit) (motive_3 := fun _ => Unit) (fun b k _ => k b) (fun _ _ _ z => z) (fun _ _ _ z => z) (fun _ _ _ _ z => z) (fun _ _ z => z) (fun _ _ z => z) (fun _ _ _ _ z => z) (fun _ _ z => z) (fun _ _ z => z) (fun _ _ _ _ _ _ z => z) (fun _ z => z) (fun _ _ _ _ z => z) (fun _ z => z) (fun _ _ _ z => z) (fun _ _ _ z => z) (fun _ _ => ()) () (fun _ _ _ _ => ()) v
def dB (d : D) : (Bool → O D) → O D → O D := D.rec (motive_1 := fun _ => (Bool → O D) → O D → O D) (motive_2 := fun _ => Unit) (fun v => dBV v) (fun _ _ _ z => z) (fun _ _ z => z) (fun _ _ _ z => z) (fun _ _ _ z => z) (fun _ _ _ _ _ z => z) (fun _ _ _ _ _ z => z) (fun _ _ z => z) (fun _ _ _ z => z) (fun _ _ _ z => z) (fun _ _ _ _ _ _ z => z) (fun _ _ _ _ z => z) () (fun _ _ _ _ => ()) d
def dBXV (v : Value) : (Bool → XT) → XT → XT := Value.rec (motive_1 := fun _ => (Bool → XT) → XT → XT) (motive_2 := fun _ => Unit) (motive_3 := fun _ => Unit) (fun b k _ => k b) (fun _ _ _ z => z) (fun _ _ _ z => z) (fun _ _ _ _ z => z) (fun _ _ z => z) (fun _ _ z => z) (fun _ _ _ _ z => z) (fun _ _ z => z) (fun _ _ z => z) (fun _ _ _ _ _ _ z => z) (fun _ z => z) (fun _ _ _ _ z => z) (fun _ z => z) (fun _ _ _ z => z) (fun _ _ _ z => z) (fun _ _ => ()) () (fun _ _ _ _ => ()) v
def dBX (d : D) : (Bool → XT) → XT → XT := D.rec (motive_1 := fun _ => (Bool → XT) → XT → XT) (motive_2 := fun _ => Unit) (fun v => dBXV v) (fun _ _ _ z => z) (fun _ _ z => z) (fun _ _ _ z => z) (fun _ _ _ z => z) (fun _ _ _ _ _ z => z) (fun _ _ _ _ _ z => z) (fun _ _ z => z) (fun _ _ _ z => z) (fun _ _ _ z => z) (fun _ _ _ _ _ _ z => z) (fun _ _ _ _ z => z) () (fun _ _ _ _ => ()) d
def dBbV (v : Value) : (Bool → Bool) → Bool → Bool := Value.rec (motive_1 := fun _ => (Bool → Bool) → Bool → Bool) (motive_2 := fun _ => Unit) (motive_3 := fun _ => Unit) (fun b k _ => k b) (fun _ _ _ z => z) (fun _ _ _ z => z) (fun _ _ _ _ z => z) (fun _ _ z => z) (fun _ _ z => z) (fun _ _ _ _ z => z) (fun _ _ z => z) (fun _ _ z => z) (fun _ _ _ _ _ _ z => z) (fun _ z => z) (fun _ _ _ _ z => z) (fun _ z => z) (fun _ _ _ z => z) (fun _ _ _ z => z) (fun _ _ => ()) () (fun _ _ _ _ => ()) v
def dBb (d : D) : (Bool → Bool) → Bool → Bool := D.rec (motive_1 := fun _ => (Bool → Bool) → Bool → Bool) (motive_2 := fun _ => Unit) (fun v => dBbV v) (fun _ _ _ z => z) (fun _ _ z => z) (fun _ _ _ z => z) (fun _ _ _ z => z) (fun _ _ _ _ _ z => z) (fun _ _ _ _ _ z => z) (fun _ _ z => z) (fun _ _ _ z => z) (fun _ _ _ z => z) (fun _ _ _ _ _ _ z => z) (fun _ _ _ _ z => z) () (fun _ _ _ _ => ()) d
def Zjj (o : Option AObj) : (TypeId → List D → O D) → O D → O D := Option.rec (motive := fun _ => (TypeId → List D → O D) → O D → O D) (fun _ z => z) (fun x => AObj.rec (motive := fun _ => (TypeId → List D → O D) → O D → O D) (fun ty cs k _ => k ty cs) (fun _ _ z => z) (fun _ _ _ z => z) x) o
def oNat (i : Int) : (Nat → O D) → O D → O D := Int.rec (motive := fun _ => (Nat → O D) → O D → O D) (fun n k _ => k n) (fun _ _ z => z) i
def oDs (o : Option (List D)) (k : List D → O D) (z : O D) : O D := Option.rec (motive := fun _ => O D) z k o
def Zyw (a : AAct) (x : Opd) : D := Opd.rec (motive := fun _ => D) (fun n => a.eval (.t n)) (fun d => d) x
theorem Zd7 (a : AAct) (x : Opd) : Zyw a x = a.eval x := by cases x <;> rfl
def Z0j (h : H) (a : D) (n : Nat) : Option (List D) :=
  match a with
  | .ptr l off => match hget h.mem l with
    | some (.cells _ cs) => Z6f n (Z1k off cs)
    | _ => none
  | .ep cs => Z6f n cs
  | _ => none
theorem Zct (h : H) (a : D) (n : Nat) : Z0j h a n = Z3 h a n := by
  unfold Z0j Z3
  cases a <;> try rfl
  · rename_i l off
    simp only [ZO]
    cases h.mem.get l with
    | none => rfl
    | some o => cases o with
      | cells ty cs => simp only [Zjs,Zjw]
      | _ => rfl
  · simp only [Zjs]
def slF (h : H) (size : Nat) (d : D) : Option (Nat × List D) :=
  match d with
  | .sl _ n cs => bif Nat.beq (Ztg cs) (n * size) then some (n,cs) else none
  | .row l off len _ => match Z0j h (.ptr l off) (len * size) with
    | some cs => some (len,cs)
    | none => none
  | d => Zz h size d
theorem Z2l (h : H) (size : Nat) (d : D) : slF h size d = Zz h size d := by
  unfold slF
  cases d <;> simp only [Zls,Zct,Zz] <;> rfl
def ZZ (size : Nat) (x : Opd) (i : Opd) (E : Env) (call : Call) (a : AAct) (h : H) : O D :=
  dSl (Zyw a x) (fun id n cs => Z84 (Zyw a i) (fun _ m => oNat m (fun j => Bool.rec (motive := fun _ => O D) (.fail "index: slice") (Zav (Z1k (Nat.mul j size) cs) (fun c r => .ok (.ep (c :: r)) h) (.fail "index: slice")) (Nat.blt j n)) (.fail "index: slice")) (.fail "index: slice")) (Zbl (Zed size (Zyw a x) (Zyw a i)) h "index: slice")
theorem Zn6 : @ZZ = @Zfb := by
  funext size x i E call a h
  unfold ZZ Zfb
  rw [Zd7,Zd7]
  cases a.eval x <;> try rfl
  rename_i id n cs
  cases a.eval i <;> try rfl
  rename_i k m
  cases m <;> try rfl
  rename_i j
  show (Bool.rec (motive := fun _ => O D) (.fail "index: slice") (Zav (Z1k (Nat.mul j size) cs) (fun c r => .ok (.ep (c :: r)) h) (.fail "index: slice")) (Nat.blt j n)) = _
  simp only [Zed,U9,Zjw]
  show _ = Zbl (match bif Nat.blt j n then some j else none with
    | some i => match cs.drop (i * size) with
      | [] => none
      | c :: r => some (.ep (c :: r))
    | none => none) h "index: slice"
  cases Nat.blt j n with
  | false => rfl
  | true =>
    show Zav (cs.drop (j * size)) _ _ = _
    simp only [cond_true]
    cases cs.drop (j * size) <;> rfl
def Zjf (x : Opd) (i : Opd) (E : Env) (call : Call) (a : AAct) (h : H) : O D :=
  dStr (Zyw a x) (fun s => Z84 (Zyw a i) (fun _ m => oNat m (fun i => Zav (Z1k i s) (fun b _ => .ok (.int .u8 (.ofNat b)) h) (.fail "index: string")) (.fail "index: string")) (.fail "index: string")) (.fail "index: string")
theorem Zlf : @Zjf = @Za4 := by
  funext x i E call a h
  unfold Zjf Za4
  rw [Zd7,Zd7]
  generalize a.eval x = X
  generalize a.eval i = I
  cases X <;> try rfl
  rename_i s
  cases I <;> try rfl
  rename_i k n
  cases n <;> try rfl
  rename_i n
  show Zav (Z1k n s) _ _ = _
  simp only [Zjw]
  cases s.drop n <;> rfl
def Vm (x : Opd) (E : Env) (call : Call) (a : AAct) (h : H) : O D :=
  dStr (Zyw a x) (fun l => .ok (.int .i64 (.ofNat (Ztg l))) h) (.fail "len")
theorem Zle : @Vm = @Zca := by
  funext x E call a h
  unfold Vm Zca
  rw [Zd7]
  cases a.eval x <;> try rfl
  rename_i l
  show O.ok (D.int .i64 (.ofNat (Ztg l))) h = _
  rw [Zls]
def Zyt (ag : Bool) (n : Nat) (cs : List D) (off : Nat) (h : H) (why : String) : O D :=
  Bool.rec (motive := fun _ => O D) (Zav (Z1k off cs) (fun d _ => .ok d h) (.fail why)) (oDs (Z6f n (Z1k off cs)) (fun r => .ok (.agg r) h) (.fail why)) ag
theorem Zup (ag : Bool) (n : Nat) (cs : List D) (off : Nat) (h : H) (why : String) : Zyt ag n cs off h why = Zbl (Zka ag n cs off) h why := by
  unfold Zyt Zka
  rw [Zjs,Zjw]
  cases ag with
  | true => simp only [cond_true]; cases Nat.beq ((cs.drop off).take n).length n <;> rfl
  | false => simp only [cond_false]; cases cs.drop off <;> rfl
def Zn9 (ag : Bool) (off : Nat) (n : Nat) (x : Opd) (E : Env) (call : Call) (a : AAct) (h : H) : O D :=
  dAgg (Zyw a x) (fun cs => Zyt ag n cs off h "field") (.fail "field")
theorem Zn8 : @Zn9 = @Zd6 := by
  funext ag off n x E call a h
  unfold Zn9 Zd6
  rw [Zd7]
  cases a.eval x <;> try rfl
  exact Zup ..
def Zn7 (ag : Bool) (n : Nat) (size : Nat) (x : Opd) (i : Opd) (E : Env) (call : Call) (a : AAct) (h : H) : O D :=
  match a.eval x,U9 (a.eval i) n with
    | .agg cs,some i => Zyt ag size cs (i * size) h "index: value"
    | _,_ => .fail "index: value"
theorem Zlg : @Zn7 = @Za5 := by
  funext ag n size x i E call a h
  unfold Zn7 Za5
  simp only [Zup]
  rfl
def Zt (off : Nat) (x : Opd) (E : Env) (call : Call) (a : AAct) (h : H) : O D :=
  dPE (Zyw a x) (fun l o => .ok (.ptr l (Nat.add o off)) h) (fun cs => .ok (.ep (Z1k off cs)) h) (.fail "fieldAddr")
theorem Zsd : @Zt = @Zi1 := by
  funext off x E call a h
  unfold Zt Zi1
  rw [Zd7]
  cases a.eval x <;> try rfl
  rename_i cs
  show O.ok (D.ep (Z1k off cs)) h = _
  rw [Zjw]
def Z3i (n : Nat) (size : Nat) (x : Opd) (i : Opd) (E : Env) (call : Call) (a : AAct) (h : H) : O D :=
  match a.eval x with
  | .ep cs => (match U9 (a.eval i) n with
    | some i => .ok (.ep (Z1k (i * size) cs)) h
    | none => .fail "index: array")
  | d => Zbl (Zij n size d (a.eval i)) h "index: array"
theorem Zul : @Z3i = @Zfc := by
  funext n size x i E call a h
  unfold Z3i Zfc
  cases a.eval x <;> try rfl
  simp only [Zij,Zjw]
  cases U9 (a.eval i) n <;> rfl
def Xe (i : Nat) (x : Opd) (E : Env) (call : Call) (a : AAct) (h : H) : O D :=
  dTup (Zyw a x) (fun ds => Zav (Z81 i ds) (fun d _ => .ok d h) (.fail "extract")) (.fail "extract")
theorem Zoa : @Xe = @Zfd := by
  funext i x E call a h
  unfold Xe Zfd
  rw [Zd7]
  cases a.eval x <;> try rfl
  rename_i ds
  show Zav (Z81 i ds) _ _ = Zbl (ds[i]?) h "extract"
  rw [Zly]
  have : ds[i]? = (ds.drop i)[0]? := by rw [List.getElem?_drop]; rfl
  rw [this]
  cases ds.drop i <;> rfl
def Zn4 (e : TypeId) (x : Opd) (E : Env) (call : Call) (a : AAct) (h : H) : O D :=
  match a.eval x with
    | .str l => .ok (.sl 0 (Ztg l) (List.rec (motive := fun _ => List D) [] (fun b _ ih => .int .u8 (.ofNat b) :: ih) l)) h
    | _ => .fail "s2b"
theorem Zl1 : ∀ l : List Nat,(List.rec (motive := fun _ => List D) [] (fun b _ ih => .int .u8 (.ofNat b) :: ih) l : List D) = Yz l
  | [] => rfl
  | b :: r => congrArg (.int .u8 (.ofNat b) :: ·) (Zl1 r)
theorem Zn3 : @Zn4 = @Zd4 := by
  funext e x E call a h
  unfold Zn4 Zd4
  simp only [Zls,Zl1]
  rfl
def byF (cs : List D) : Option (List Nat) := List.rec (motive := fun _ => Option (List Nat)) (some []) (fun d _ ih => match d with
  | .int .u8 (.ofNat n) => Option.rec (motive := fun _ => Option (List Nat)) none (fun l => bif Nat.blt n 256 then some (n :: l) else none) ih
  | _ => none) cs
theorem Z5y : ∀ cs : List D,byF cs = Wl cs
  | [] => rfl
  | d :: r => by
    unfold Wl
    split
    · rename_i he; cases he
    · rename_i n s he
      cases he
      show Option.rec (motive := fun _ => Option (List Nat)) none (fun l => bif Nat.blt n 256 then some (n :: l) else none) (byF r) = _
      rw [Z5y r]
      cases Wl r <;> rfl
    · rename_i x s hx he
      cases he
      show (match d with
        | .int .u8 (.ofNat n) => Option.rec (motive := fun _ => Option (List Nat)) none (fun l => bif Nat.blt n 256 then some (n :: l) else none) (byF r)
        | _ => none) = _
      split
      · rename_i n; exact absurd rfl (hx n)
      · rfl
def Zj8 (x : Opd) (E : Env) (call : Call) (a : AAct) (h : H) : O D :=
  match slF h 1 (a.eval x) with
    | some (_,cs) => match byF cs with
      | some l => .ok (.str l) h
      | none => .fail "b2s"
    | none => .fail "b2s"
theorem Zj7 : @Zj8 = @Zbw := by
  funext x E call a h
  unfold Zj8 Zbw
  simp only [Z2l,Z5y]
  rfl
def apnF (h : H) (e : TypeId) (size bytes : Nat) (s x : D) : O D :=
  match slF h size x with
  | some (m,ys) =>
    bif Nat.beq m 0 then (match s with
      | .v (.slice none 0 0) | .sl _ _ _ => .ok s h
      | _ => .fail "append: nothing") else
    bif Z7v ys && Nat.beq (Ztg ys) (m * size) && !Nat.beq size 0 then
    match s with
    | .v (.slice none 0 0) =>
      bif Nat.ble (m * bytes) 140737488355328 && Nat.ble m 140737488355328 then
      .ok (.sl h.next m ys) (Vr h (.tip m e))
      else .fail "append: size"
    | .sl id n cs => match hget h.mem id with
      | some (.tip k u) => bif Nat.beq k n && Nat.beq u e && Nat.beq (Ztg cs) (n * size) && Nat.ble ((n + m) * bytes) 140737488355328 && Nat.ble (n + m) 140737488355328 then .ok (.sl id (n + m) (apF cs ys)) (YF h id (.tip (n + m) e)) else .fail "append: not the tip"
      | _ => .fail "append: no tip"
    | _ => .fail "append: no slice"
    else .fail "append: cells"
  | none => .fail "append: what?"
theorem Z9f (h : H) (e : TypeId) (size bytes : Nat) (s x : D) : apnF h e size bytes s x = Vb h e size bytes s x := by
  unfold apnF Vb
  simp only [Z2l,Zm8,Zls,ZO,UN,Zbe,Zpn]
  rfl
def Zbo (e : TypeId) (size : Nat) (bytes : Nat) (s : Opd) (x : Opd) (E : Env) (call : Call) (a : AAct) (h : H) : O D :=
  apnF h e size bytes (a.eval s) (a.eval x)
theorem Zod : @Zbo = @Zgi := by
  funext e size bytes s x E call a h
  unfold Zbo Zgi
  exact Z9f ..
def apsF (h : H) (e : TypeId) (s x : D) : O D :=
  match x with
  | .str bs =>
    bif Nat.beq (Ztg bs) 0 then (match s with
      | .v (.slice none 0 0) | .sl _ _ _ => .ok s h
      | _ => .fail "append: nothing") else
    match s with
    | .v (.slice none 0 0) =>
      bif Nat.ble (Ztg bs) 140737488355328 then
      .ok (.sl h.next (Ztg bs) (List.rec (motive := fun _ => List D) [] (fun b _ ih => .int .u8 (.ofNat b) :: ih) bs)) (Vr h (.tip (Ztg bs) e))
      else .fail "append: size"
    | .sl id n cs => match hget h.mem id with
      | some (.tip k u) => bif Nat.beq k n && Nat.beq u e && Nat.beq (Ztg cs) n && Nat.ble (n + Ztg bs) 140737488355328 then .ok (.sl id (n + Ztg bs) (apF cs (List.rec (motive := fun _ => List D) [] (fun b _ ih => .int .u8 (.ofNat b) :: ih) bs))) (YF h id (.tip (n + Ztg bs) e)) else .fail "append: not the tip"
      | _ => .fail "append: no tip"
    | _ => .fail "append: no slice"
  | _ => .fail "append: what?"
theorem Z9e (h : H) (e : TypeId) (s x : D) : apsF h e s x = UR h e s x := by
  unfold apsF UR
  simp only [Zls,Zl1,ZO,UN,Zbe,Zpn]
  rfl
def Zoc (e : TypeId) (s : Opd) (x : Opd) (E : Env) (call : Call) (a : AAct) (h : H) : O D :=
  apsF h e (a.eval s) (a.eval x)
theorem Zli : @Zoc = @Zdp := by
  funext e s x E call a h
  unfold Zoc Zdp
  exact Z9e ..
def keF (a b : D) : Option Bool :=
  match a,b with
  | .str a,.str b => some (eqF a b)
  | a,b => Wv a b
theorem Z4s (a b : D) : keF a b = Wv a b := by
  unfold keF
  split
  · rw [Zs4]; rfl
  · rfl
def finF (k : D) (es : List (D × D)) : Option (Option D) := List.rec (motive := fun _ => Option (Option D)) (some none) (fun e _ ih => match keF k e.1 with
    | some true => some (some e.2)
    | some false => ih
    | none => none) es
theorem Zzg (k : D) : ∀ es : List (D × D),finF k es = Xr k es
  | [] => rfl
  | (q,d) :: r => by
    show (match keF k q with
      | some true => some (some d)
      | some false => finF k r
      | none => none) = _
    rw [Zzg k r,Xr,Z4s]
    rfl
def semF (k d : D) (es : List (D × D)) : Option (List (D × D)) := List.rec (motive := fun _ => Option (List (D × D))) (some [(k,d)]) (fun e r ih => match keF k e.1 with
    | some true => some ((e.1,d) :: r)
    | some false => Option.rec (motive := fun _ => Option (List (D × D))) none (fun s => some (e :: s)) ih
    | none => none) es
theorem Zyf (k d : D) : ∀ es : List (D × D),semF k d es = Ux k d es
  | [] => rfl
  | (q,e) :: r => by
    show (match keF k q with
      | some true => some ((q,d) :: r)
      | some false => Option.rec (motive := fun _ => Option (List (D × D))) none (fun s => some ((q,e) :: s)) (semF k d r)
      | none => none) = _
    rw [Zyf k d r,Ux,Z4s]
    cases Wv k q with
    | none => rfl
    | some b => cases b with
      | true => rfl
      | false => cases Ux k d r <;> rfl
def mpF (h : H) (d : D) : Option (List (D × D)) :=
  match d with
  | .v (.map none) => some []
  | .map l => match hget h.mem l with
    | some (.map es) => some es
    | _ => none
  | _ => none
theorem mpF_eq (h : H) (d : D) : mpF h d = (match d with
        | .v (.map none) => some []
        | .map l => match h.mem.get l with
          | some (.map es) => some es
          | _ => none
        | _ => none) := by
  unfold mpF
  simp only [ZO]
def Ze9 (flat : Nat) (z : D) (x : Opd) (k : Opd) (ok : Bool) (E : Env) (call : Call) (a : AAct) (h : H) : O D :=
  bif Zab flat (a.eval k) then match mpF h (a.eval x) with
      | some es => match finF (a.eval k) es with
        | some (some d) => .ok (bif ok then .tup [d,.v (.bool true)] else d) h
        | some none => .ok (bif ok then .tup [z,.v (.bool false)] else z) h
        | none => .fail "lookup: key"
      | none => .fail "lookup"
    else .fail "lookup"
theorem Zid : @Ze9 = @U7 := by
  funext flat z x k ok E call a h
  unfold Ze9 U7
  simp only [mpF_eq,Zzg]
  rfl
def Zgf (flat : Nat) (m : Opd) (k : Opd) (x : Opd) (E : Env) (call : Call) (a : AAct) (h : H) : O D :=
  match a.eval m with
    | .map l => bif Zab flat (a.eval k) then match hget h.mem l with
      | some (.map es) => match semF (a.eval k) (a.eval x) es with
        | some es => .ok ZD (YF h l (.map es))
        | none => .fail "mapUpdate: key"
      | _ => .fail "mapUpdate"
      else .fail "mapUpdate"
    | _ => .fail "mapUpdate"
theorem Zic : @Zgf = @Za2 := by
  funext flat m k x E call a h
  unfold Zgf Za2
  simp only [ZO,Zyf,UN]
  rfl
def rpF (l : List D) (n : Nat) : List D := Nat.rec (motive := fun _ => List D) [] (fun _ ih => apF l ih) n
theorem Z3d (l : List D) : ∀ n,rpF l n = repeatL l n
  | 0 => rfl
  | n + 1 => by
    show apF l (rpF l n) = _
    rw [Zpn,Z3d l n]; rfl
def Zje (e : TypeId) (size : Nat) (bytes : Nat) (z : List D) (l : Opd) (c : Opd) (E : Env) (call : Call) (a : AAct) (h : H) : O D :=
  match a.eval l,a.eval c with
    | .int _ (.ofNat n),.int _ (.ofNat m) =>
      bif Nat.ble m 140737488355328 && Nat.ble (m * bytes) 140737488355328 then
        bif Nat.beq n m then .ok (.row h.next 0 n n) (Vr h (.cells e (rpF z n)))
        else bif Nat.beq n 0 then .ok (.sl h.next 0 []) (Vr h (.tip 0 e))
        else .fail "makeSlice"
      else .fail "makeSlice"
    | _,_ => .fail "makeSlice"
theorem Zld : @Zje = @Za3 := by
  funext e size bytes z l c E call a h
  unfold Zje Za3
  simp only [Z3d,Zbe]
  rfl
def Zd3 (size : Nat) (x : Opd) (lo : Option Opd) (hi : Option Opd) (E : Env) (call : Call) (a : AAct) (h : H) : O D :=
  match a.eval x with
  | .sl id n cs => match Wh n n (lo.map a.eval) (hi.map a.eval) with
    | some (l,k) => bif Nat.beq l 0 && Nat.beq k n then .ok (.sl id n cs) h else .ok (.sl 0 (k - l) (tkF ((k - l) * size) (Z1k (l * size) cs))) h
    | none => .fail "slice"
  | d => Zbl (Zk2 size d (lo.map a.eval) (hi.map a.eval)) h "slice"
theorem Zlc : @Zd3 = @Za1 := by
  funext size x lo hi E call a h
  unfold Zd3 Za1
  cases a.eval x <;> try rfl
  rename_i id n cs
  simp only [Zk2,Z2c,Zjw]
  cases Wh n n (lo.map a.eval) (hi.map a.eval) with
  | none => rfl
  | some p =>
    obtain ⟨l,k⟩ := p
    simp only
    cases Nat.beq l 0 && Nat.beq k n <;> rfl
def Z4 (x : Opd) (E : Env) (call : Call) (a : AAct) (h : H) : O D :=
  dPE (Zyw a x) (fun l o => .ok (.ptr l o) h) (fun cs => .ok (.ep cs) h) (Xs x E call a h)
theorem Ze8 : @Z4 = @Xs := by
  funext x E call a h
  unfold Z4
  rw [Zd7]
  cases hx : a.eval x <;> try rfl
  all_goals (unfold Xs; rw [hx]; rfl)
def Yy (x : Opd) (E : Env) (call : Call) (a : AAct) (h : H) : O D :=
  dSl (Zyw a x) (fun _ n _ => .ok (.int .i64 (.ofNat n)) h) (Zd5 x E call a h)
theorem Zn5 : @Yy = @Zd5 := by
  funext x E call a h
  unfold Yy
  rw [Zd7]
  cases hx : a.eval x <;> try rfl
  all_goals (unfold Zd5; rw [hx]; rfl)
def Ze7 (op : UnOp) (x : Opd) (E : Env) (call : Call) (a : AAct) (h : H) : O D :=
  dB (Zyw a x) (fun b => UnOp.rec (motive := fun _ => O D) (Zey op x E call a h) (Zey op x E call a h) (.ok (.v (.bool (Bool.rec (motive := fun _ => Bool) true false b))) h) (Zey op x E call a h) op) (Zey op x E call a h)
theorem Zyk : @Ze7 = @Zey := by
  funext op x E call a h
  unfold Ze7
  rw [Zd7]
  cases hx : a.eval x <;> try rfl
  rename_i v
  cases v <;> try rfl
  cases op <;> try rfl
  rename_i b
  unfold Zey
  rw [hx]
  cases b <;> rfl
def tvN (k : Nat) : Nat → Tr D → D := Nat.rec (motive := fun _ => Nat → Tr D → D) (fun n t => match t.get n with
    | some d => d
    | none => ZD) (fun _ ih n t => Tr.rec (motive := fun _ => D) ZD (fun l v r _ _ => bif Nat.beq n 0 then Option.rec (motive := fun _ => D) ZD (fun d => d) v else bif Nat.beq (Nat.mod n 2) 1 then ih (Nat.div n 2) l else ih (Nat.pred (Nat.div n 2)) r) t) k
theorem Zwk : ∀ (k n : Nat) (t : Tr D),tvN k n t = (match t.get n with
    | some d => d
    | none => ZD)
  | 0,n,t => rfl
  | k + 1,n,.nil => rfl
  | k + 1,n,.node l v r => by
    show (bif Nat.beq n 0 then Option.rec (motive := fun _ => D) ZD (fun d => d) v else bif Nat.beq (Nat.mod n 2) 1 then tvN k (Nat.div n 2) l else tvN k (Nat.pred (Nat.div n 2)) r) = _
    rw [Zwk k,Zwk k,Tr.get]
    cases Nat.beq n 0 with
    | true => cases v <;> rfl
    | false =>
      simp only [cond_false]
      have e : Nat.beq (n % 2) 1 = Nat.beq (Nat.mod n 2) 1 := rfl
      rw [e]
      cases Nat.beq (Nat.mod n 2) 1 <;> rfl
def tvF (a : AAct) (n : Nat) : D := tvN 12 n a.tmps
theorem tvF_eq (a : AAct) (n : Nat) : tvF a n = a.eval (.t n) := Zwk 12 n a.tmps
def crF (a : AAct) (h : H) (l : List CRes) : Option (List D) := List.rec (motive := fun _ => Option (List D)) (some []) (fun r _ ih => match (match r with
      | .t n => some (tvF a n)
      | .c1 n => match Z0j h (tvF a n) 1 with
        | some [d] => some d
        | _ => none
      | .cN n size => match Z0j h (tvF a n) size with
        | some cs => some (.agg cs)
        | none => none) with
    | some d => Option.rec (motive := fun _ => Option (List D)) none (fun ds => some (d :: ds)) ih
    | none => none) l
theorem Z5q (a : AAct) (h : H) : ∀ l,crF a h l = Xl a h l
  | [] => rfl
  | r :: rs => by
    show (match (match r with
      | .t n => some (tvF a n)
      | .c1 n => match Z0j h (tvF a n) 1 with
        | some [d] => some d
        | _ => none
      | .cN n size => match Z0j h (tvF a n) size with
        | some cs => some (.agg cs)
        | none => none) with
    | some d => Option.rec (motive := fun _ => Option (List D)) none (fun ds => some (d :: ds)) (crF a h rs)
    | none => none) = _
    rw [Z5q a h rs]
    cases r <;> simp only [Xl,tvF_eq,Zct]
    all_goals generalize Xl a h rs = R
    case t n => cases R <;> rfl
    case c1 n =>
      generalize Z3 h (a.eval (.t n)) 1 = C
      rcases C with _ | _ | ⟨d,_ | _⟩ <;> cases R <;> rfl
    case cN n size =>
      generalize Z3 h (a.eval (.t n)) size = C
      cases C <;> cases R <;> rfl
def UP (fn : CFn) (a : AAct) (h : H) : O D :=
  match crF a h fn.results with
  | some ds => .ok (Z32 ds) h
  | none => .fail "results"
theorem Zdw : @UP = @Zbj := by
  funext fn a h
  unfold UP Zbj
  rw [Z5q]
  rfl
theorem Zso (i : Nat) : ∀ l,Z0u i l = Ya i l
  | [] => rfl
  | x :: r => by
    show (bif Nat.beq x i then true else Z0u i r) = _
    rw [Zso i r,Ya]
    first
      | rfl
      | (cases Nat.beq x i <;> rfl)
      | (rw [show Nat.beq x i = Nat.beq i x from by rw [Bool.eq_iff_iff,Nat.beq_eq,Nat.beq_eq]; exact eq_comm]; cases Nat.beq i x <;> rfl)
def rkF (inc : List Nat) (x : D) (cs : List D) (recs : List Rec) : Bool := List.rec (motive := fun _ => Bool) true (fun r _ ih => match r with
  | .loud i h => bif Z0u i inc then (match Z0j h x (Z4e cs 0) with
    | some ds => bif ZR cs ds then ih else false
    | none => false) else ih
  | _ => ih) recs
theorem Zgb (inc : List Nat) (x : D) (cs : List D) : ∀ recs,rkF inc x cs recs = XA inc x cs recs
  | [] => rfl
  | r :: rs => by
    show (match r with
      | .loud i h => bif Z0u i inc then (match Z0j h x (Z4e cs 0) with
        | some ds => bif ZR cs ds then rkF inc x cs rs else false
        | none => false) else rkF inc x cs rs
      | _ => rkF inc x cs rs) = _
    rw [Zgb inc x cs rs]
    cases r with
    | loud i h =>
      simp only [Zso,Zct,Zhr,Nat.zero_add,XA]
      cases Ya i inc with
      | false => rfl
      | true =>
        simp only [cond_true,Bool.not_true,Bool.false_or]
        cases Z3 h x cs.length with
        | none => rfl
        | some ds => simp only; cases ZR cs ds <;> rfl
    | _ => rfl
def lkF (inc : List Nat) (h : H) (recs : List Rec) : Bool := List.rec (motive := fun _ => Bool) true (fun r _ ih => match r with
  | .rd i x cs => bif Z0u i inc then (match Z0j h x (Z4e cs 0) with
    | some ds => bif ZR cs ds then ih else false
    | none => false) else ih
  | _ => ih) recs
theorem Zfe (inc : List Nat) (h : H) : ∀ recs,lkF inc h recs = YJ inc h recs
  | [] => rfl
  | r :: rs => by
    show (match r with
      | .rd i x cs => bif Z0u i inc then (match Z0j h x (Z4e cs 0) with
        | some ds => bif ZR cs ds then lkF inc h rs else false
        | none => false) else lkF inc h rs
      | _ => lkF inc h rs) = _
    rw [Zfe inc h rs]
    cases r with
    | rd i x cs =>
      simp only [Zso,Zct,Zhr,Nat.zero_add,YJ]
      cases Ya i inc with
      | false => rfl
      | true =>
        simp only [cond_true,Bool.not_true,Bool.false_or]
        cases Z3 h x cs.length with
        | none => rfl
        | some ds => simp only; cases ZR cs ds <;> rfl
    | _ => rfl
end
end Go.Abs
namespace Go.Abs
noncomputable section
def kNum (k : IntKind) : Nat := IntKind.rec (motive := fun _ => Nat) 0 1 2 3 4 5 6 7 k
def kEq (a b : IntKind) : Bool := Nat.beq (kNum a) (kNum b)
theorem kEq_eq (a b : IntKind) : kEq a b = decide (a = b) := by cases a <;> cases b <;> rfl
def Zxi (k : IntKind) : Nat :=
  match k with
  | .i8 => 127
  | .i16 => 32767
  | .i32 => 2147483647
  | .i64 => 9223372036854775807
  | .u8 => 255
  | .u16 => 65535
  | .u32 => 4294967295
  | .u64 => 18446744073709551615
theorem Zoz (k : IntKind) (m : Nat) : Z4t k (.ofNat m) = Nat.ble m (Zxi k) := by
  cases k <;> (rw [Bool.eq_iff_iff]; simp only [Z4t,Zxi,Bool.and_eq_true,decide_eq_true_eq,Nat.ble_eq,Int.ofNat_eq_natCast]; omega)
def Zeq (k : IntKind) (n : Int) : Int := Int.rec (motive := fun _ => Int) (fun m => bif Nat.ble m (Zxi k) then .ofNat m else Zg1 k (.ofNat m)) (fun m => Zg1 k (.negSucc m)) n
theorem Zj2 (k : IntKind) (n : Int) : Zeq k n = Zg1 k n := by
  cases n with
  | ofNat m =>
    show (bif Nat.ble m (Zxi k) then Int.ofNat m else Zg1 k (.ofNat m)) = _
    cases h : Nat.ble m (Zxi k) with
    | true => simp only [cond_true,Zg1,Zoz,h]
    | false => rfl
  | negSucc m => rfl
def iAdd (a b : Int) : Int := Int.rec (motive := fun _ => Int) (fun m => Int.rec (motive := fun _ => Int) (fun n => .ofNat (Nat.add m n)) (fun n => .ofNat m + .negSucc n) b) (fun m => .negSucc m + b) a
theorem Z78 (a b : Int) : iAdd a b = a + b := by cases a <;> cases b <;> rfl
def Z4v (a b : Int) : Int := Int.rec (motive := fun _ => Int) (fun m => Int.rec (motive := fun _ => Int) (fun n => bif Nat.ble n m then .ofNat (Nat.sub m n) else .ofNat m - .ofNat n) (fun n => .ofNat m - .negSucc n) b) (fun m => .negSucc m - b) a
theorem Zsv (a b : Int) : Z4v a b = a - b := by
  cases a with
  | negSucc m => rfl
  | ofNat m => cases b with
    | negSucc n => rfl
    | ofNat n =>
      simp only [Z4v]
      cases h : Nat.ble n m with
      | false => rfl
      | true =>
        have := Nat.le_of_ble_eq_true h
        simp only [cond_true]
        show Int.ofNat (m - n) = _
        simp only [Int.ofNat_eq_natCast]; omega
def iMul (a b : Int) : Int := Int.rec (motive := fun _ => Int) (fun m => Int.rec (motive := fun _ => Int) (fun n => .ofNat (Nat.mul m n)) (fun n => .ofNat m * .negSucc n) b) (fun m => .negSucc m * b) a
theorem Zzb (a b : Int) : iMul a b = a * b := by cases a <;> cases b <;> rfl
def iEq (a b : Int) : Bool := Int.rec (motive := fun _ => Bool) (fun m => Int.rec (motive := fun _ => Bool) (fun n => Nat.beq m n) (fun n => false) b) (fun m => Int.rec (motive := fun _ => Bool) (fun n => false) (fun n => Nat.beq m n) b) a
theorem Xi (m n : Nat) : Nat.beq m n = decide (m = n) := by
  cases h : Nat.beq m n with
  | true => simp [Nat.eq_of_beq_eq_true h]
  | false => simp; exact fun e => by subst e; rw [Nat.beq_refl] at h; cases h
theorem iEq_eq (a b : Int) : iEq a b = decide (a = b) := by
  cases a <;> cases b <;> simp [iEq,Xi]
  all_goals (first | omega | rfl | (rename_i m n; constructor <;> intro h <;> omega))
def iLt (a b : Int) : Bool := Int.rec (motive := fun _ => Bool) (fun m => Int.rec (motive := fun _ => Bool) (fun n => Nat.blt m n) (fun n => decide (Int.ofNat m < .negSucc n)) b) (fun m => decide (Int.negSucc m < b)) a
theorem Xz (m n : Nat) : Nat.blt m n = decide (m < n) := by
  rw [Bool.eq_iff_iff]
  simp only [Nat.blt_eq,decide_eq_true_eq]
theorem Z4w (a b : Int) : iLt a b = decide (a < b) := by
  cases a with
  | negSucc m => rfl
  | ofNat m => cases b with
    | negSucc n => rfl
    | ofNat n => simp only [iLt,Xz,Int.ofNat_eq_natCast,Int.ofNat_lt]
def Zq7 (a b : Int) : Bool := !iLt b a
theorem iLe_eq (a b : Int) : Zq7 a b = decide (a ≤ b) := by
  rw [Zq7,Z4w]
  by_cases h : b < a
  · simp [h]
  · simp [h]; omega
abbrev Zcz := Env → Call → Tr D → H → O D
def Z3k (op : BinOp) (t : TypeId) (ox oy : Operand) (a b : List Nat) (E : Env) (h : H) : O D :=
  match op with
  | .eql => .ok (.v (.bool (eqF a b))) h
  | .neq => .ok (.v (.bool (!eqF a b))) h
  | .add => bif Nat.ble (Nat.add (Ztg a) (Ztg b)) 140737488355328 then .ok (.str (apF a b)) h else Zbl (Zcq E .add t ox oy (.str a) (.str b)) h "bin"
  | op => Zbl (Zcq E op t ox oy (.str a) (.str b)) h "bin"
theorem Zyq (op : BinOp) (t : TypeId) (ox oy : Operand) (a b : List Nat) (E : Env) (h : H) : Z3k op t ox oy a b E h = Zbl (Zcq E op t ox oy (.str a) (.str b)) h "bin" := by
  cases op <;> try rfl
  · simp only [Z3k,Zls,Zpn]
    cases hb : Nat.ble (Nat.add a.length b.length) 140737488355328 with
    | false => rfl
    | true =>
      have hb' : Nat.ble (a.length + b.length) 140737488355328 = true := hb
      simp only [cond_true,Zcq,Za6,hb',Zbl]
  · simp only [Z3k,Zs4,Zcq,Za6,Zbl]
  · simp only [Z3k,Zs4,Zcq,Za6,Zbl]
def Zum (E : Env) (op : BinOp) (t : TypeId) (ox oy : Operand) (x y : D) (h : H) : O D := Zbl (Zcq E op t ox oy x y) h "bin"
def Za (f : IntKind → Int → Int → D) (op : BinOp) (t : TypeId) (ox oy : Operand) (g1 g2 : Tr D → D) : Zcz := fun E call tr h =>
  (fun x y => dIS x (fun k a => Z84 y (fun k' b => Bool.rec (motive := fun _ => O D) (Zum E op t ox oy x y h) (.ok (f k a b) h) (kEq k k')) (Zum E op t ox oy x y h)) (fun a => dStr y (fun b => Z3k op t ox oy a b E h) (Zum E op t ox oy x y h)) (Zum E op t ox oy x y h)) (g1 tr) (g2 tr)
def YS (k : IntKind) (a b : Int) : D := .int k (Zeq k (iAdd a b))
def Zff (k : IntKind) (a b : Int) : D := .int k (Zeq k (Z4v a b))
def Z5p (k : IntKind) (a b : Int) : D := .int k (Zeq k (iMul a b))
def YG (k : IntKind) (a b : Int) : D := .v (.bool (iEq a b))
def Wo (k : IntKind) (a b : Int) : D := .v (.bool (!iEq a b))
def WH (k : IntKind) (a b : Int) : D := .v (.bool (iLt a b))
def Zgx (k : IntKind) (a b : Int) : D := .v (.bool (Zq7 a b))
def Zcp (k : IntKind) (a b : Int) : D := .v (.bool (iLt b a))
def Zcy (k : IntKind) (a b : Int) : D := .v (.bool (Zq7 b a))
def Zr7 (op : BinOp) (t : TypeId) (ox oy : Operand) (g1 g2 : Tr D → D) : Zcz := fun E call tr h => Zbl (Zcq E op t ox oy (g1 tr) (g2 tr)) h "bin"
def fbin (op : BinOp) (t : TypeId) (ox oy : Operand) (g1 g2 : Tr D → D) : Zcz :=
  match op with
  | .add => Za YS .add t ox oy g1 g2
  | .sub => Za Zff .sub t ox oy g1 g2
  | .mul => Za Z5p .mul t ox oy g1 g2
  | .eql => Za YG .eql t ox oy g1 g2
  | .neq => Za Wo .neq t ox oy g1 g2
  | .lss => Za WH .lss t ox oy g1 g2
  | .leq => Za Zgx .leq t ox oy g1 g2
  | .gtr => Za Zcp .gtr t ox oy g1 g2
  | .geq => Za Zcy .geq t ox oy g1 g2
  | op => Zr7 op t ox oy g1 g2
theorem Z7o {f : IntKind → Int → Int → D} {op : BinOp} (hf : ∀ k a b,Za6 op (.int k a) (.int k b) = some (f k a b)) (t : TypeId) (ox oy : Operand) (g1 g2 : Tr D → D) (E : Env) (call : Call) (tr : Tr D) (h : H) :
    Za f op t ox oy g1 g2 E call tr h = Zbl (Zcq E op t ox oy (g1 tr) (g2 tr)) h "bin" := by
  unfold Za
  generalize g1 tr = x
  generalize g2 tr = y
  cases x <;> try rfl
  · cases y <;> try rfl
    rename_i k a k' b
    show Bool.rec (motive := fun _ => O D) _ _ (kEq k k') = _
    rw [kEq_eq]
    by_cases hk : k = k'
    · subst hk
      simp [Zcq,hf,Zbl]
    · simp [hk,Zum]
  · cases y <;> try rfl
    exact Zyq ..
theorem Z8i (op : BinOp) (t : TypeId) (ox oy : Operand) (g1 g2 : Tr D → D) (E : Env) (call : Call) (tr : Tr D) (h : H) :
    fbin op t ox oy g1 g2 E call tr h = Zbl (Zcq E op t ox oy (g1 tr) (g2 tr)) h "bin" := by
  cases op <;> first
    | rfl
    | (refine Z7o (fun k a b => ?_) t ox oy g1 g2 E call tr h
       simp [Za6,YS,Zff,Z5p,YG,Wo,WH,Zgx,Zcp,Zcy,Zj2,Z78,Zsv,Zzb,iEq_eq,Z4w,iLe_eq])
def Zl (g : Tr D → D) : Zcz := fun E call t h =>
  dPE (g t) (fun l off => Zjj (hget h.mem l) (fun _ cs => Zav (Z81 off cs) (fun d _ => .ok d h) (.fail "load")) (.fail "load")) (fun cs => Zav cs (fun d _ => .ok d h) (.fail "load")) (.fail "load")
theorem Zzf (g : Tr D → D) (E : Env) (call : Call) (t : Tr D) (h : H) (x : Opd) (hx : (act t).eval x = g t) : Zl g E call t h = Zhk x E call (act t) h := by
  unfold Zl Zhk
  rw [hx]
  cases g t <;> try rfl
  · rename_i l off
    show Zjj (hget h.mem l) _ _ = _
    simp only [Z3,ZO]
    cases h.mem.get l with
    | none => rfl
    | some o => cases o with
      | cells ty cs =>
        show Zav (Z81 off cs) _ _ = _
        simp only [Zly]; cases hd : cs.drop off <;> simp [Nat.beq,Zav]
      | _ => rfl
  · rename_i cs
    show Zav cs _ _ = _
    cases cs <;> simp [Nat.beq,Zav,Z3]
def YB (n : Nat) (g : Tr D → D) : Zcz := fun E call t h =>
  dPE (g t) (fun l off => Zjj (hget h.mem l) (fun _ cs => oDs (Z6f n (Z81 off cs)) (fun r => .ok (.agg r) h) (.fail "loadN")) (.fail "loadN")) (fun cs => oDs (Z6f n cs) (fun r => .ok (.agg r) h) (.fail "loadN")) (.fail "loadN")
theorem Zze (n : Nat) (g : Tr D → D) (E : Env) (call : Call) (t : Tr D) (h : H) (x : Opd) (hx : (act t).eval x = g t) : YB n g E call t h = Zhj n x E call (act t) h := by
  unfold YB Zhj
  rw [hx]
  cases g t <;> try rfl
  · rename_i l off
    show Zjj (hget h.mem l) _ _ = _
    simp only [Z3,ZO]
    cases h.mem.get l with
    | none => rfl
    | some o => cases o with
      | cells ty cs =>
        show oDs (Z6f n (Z81 off cs)) _ _ = _
        simp only [Zjs,Zly]
        cases Nat.beq ((cs.drop off).take n).length n <;> rfl
      | _ => rfl
  · rename_i cs
    show oDs (Z6f n cs) _ _ = _
    simp only [Z3,Zjs]
    cases Nat.beq (cs.take n).length n <;> rfl
def ZF (n : Nat) (g1 g2 : Tr D → D) : Zcz := fun E call t h =>
  dPtr (g1 t) (fun l off => Zjj (hget h.mem l) (fun ty cs => (fun xs => Bool.rec (motive := fun _ => O D) (.fail "store") (Bool.rec (motive := fun _ => O D) (.fail "store") (oDs (paF off xs cs) (fun cs => .ok ZD (YF h l (.cells ty cs))) (.fail "store")) (Z7v xs)) (Nat.beq (Z4e xs 0) n)) (Zlz (g2 t))) (.fail "store")) (.fail "store")
theorem Z8d (n : Nat) (g1 g2 : Tr D → D) (E : Env) (call : Call) (t : Tr D) (h : H) (x y : Opd) (hx : (act t).eval x = g1 t) (hy : (act t).eval y = g2 t) : ZF n g1 g2 E call t h = Zpx n x y E call (act t) h := by
  unfold ZF Zpx
  rw [hx,hy]
  simp only [Zjb]
  cases g1 t <;> try rfl
  rename_i l off
  show Zjj (hget h.mem l) _ _ = _
  simp only [ZO]
  cases h.mem.get l with
  | none => rfl
  | some o => cases o with
    | cells ty cs =>
      show Bool.rec (motive := fun _ => O D) _ _ _ = _
      simp only [Zhr,Nat.zero_add,Zm8,Zsi,UN,Zdz]
      cases Nat.beq (g2 t).cells.length n with
      | false => rfl
      | true => cases Y4 (g2 t).cells with
        | false => rfl
        | true => simp only [Bool.and_self,cond_true]; cases patch cs off (g2 t).cells <;> rfl
    | _ => rfl
def Zo (ty : TypeId) (z : List D) : Zcz := fun E call t h => .ok (.ptr h.next 0) (Vr h (.cells ty z))
def Zai (ty : TypeId) (g : Tr D → D) : Zcz := fun E call t h => .ok (.ptr h.next 0) (Vr h (.cells ty (Zlz (g t))))
def Zo7 : Zcz := fun E call t h => .ok (.map h.next) (Vr h (.map []))
def WI (t : Tr D) (cells : List D) : List (Nat × Nat × (Tr D → D)) → Option (List D)
  | [] => some cells
  | (off,size,g) :: r => bif Nat.beq (g t).cells.length size then (match patch cells off (g t).cells with
      | some cells => WI t cells r
      | none => none) else none
def Z8f (t : Tr D) (cells : List D) (l : List (Nat × Nat × (Tr D → D))) : Option (List D) :=
  List.rec (motive := fun _ => List D → Option (List D)) (fun cells => some cells) (fun p _ ih cells => (fun xs => Bool.rec (motive := fun _ => Option (List D)) none (Option.rec (motive := fun _ => Option (List D)) none ih (paF p.1 xs cells)) (Nat.beq (Z4e xs 0) p.2.1)) (Zlz (p.2.2 t))) l cells
theorem Zgt (t : Tr D) : ∀ (l : List (Nat × Nat × (Tr D → D))) (cells : List D),Z8f t cells l = WI t cells l
  | [],cells => rfl
  | (off,size,g) :: r,cells => by
    show Bool.rec (motive := fun _ => Option (List D)) none (Option.rec (motive := fun _ => Option (List D)) none (fun c => Z8f t c r) (paF off (Zlz (g t)) cells)) (Nat.beq (Z4e (Zlz (g t)) 0) size) = _
    rw [Zdz,Zhr,Nat.zero_add,Zsi,WI]
    cases Nat.beq (g t).cells.length size with
    | false => rfl
    | true =>
      simp only [cond_true]
      cases patch cells off (g t).cells with
      | none => rfl
      | some c => simp only [Zgt t r]
def Zo2 (ps : List (Nat × Nat × Opd)) : List (Nat × Nat × (Tr D → D)) := ps.map fun p => (p.1,p.2.1,fe p.2.2)
theorem Zpb (t : Tr D) : ∀ (ps : List (Nat × Nat × Opd)) (cells : List D),WI t cells (Zo2 ps) = Zbq (act t) cells ps
  | [],cells => rfl
  | (off,size,x) :: r,cells => by
    simp only [Zo2,List.map_cons,WI,Zbq,YC]
    cases Nat.beq ((act t).eval x).cells.length size with
    | false => rfl
    | true =>
      simp only [cond_true]
      cases patch cells off ((act t).eval x).cells with
      | none => rfl
      | some c => exact Zpb t r c
def YQ (z : List D) (ps : List (Nat × Nat × (Tr D → D))) : Zcz := fun E call t h =>
  match Z8f t z ps with
  | some cs => .ok (.agg cs) h
  | none => .fail "build"
def Xu (e : TypeId) (len : Nat) (z : List D) (ps : List (Nat × Nat × (Tr D → D))) : Zcz := fun E call t h =>
  match Z8f t z ps with
  | some cs => .ok (.sl h.next len cs) (Vr h (.tip len e))
  | none => .fail "buildSl"
def Zh (g : Tr D → D) : Zcz := fun E call t h => .ok (g t) h
def Yb (c x y : Tr D → D) : Zcz := fun E call t h => dB (c t) (fun b => .ok (Bool.rec (motive := fun _ => D) (y t) (x t) b) h) (.fail "pick")
def VM (k : IntKind) (g : Tr D → D) : Zcz := fun E call t h => Z84 (g t) (fun _ n => .ok (.int k (Zeq k n)) h) (.fail "cint")
def Zw (f : Nat) (gs : List (Tr D → D)) : Zcz := fun E call t h => call f (Zky gs t) h
def Z45 (g : Tr D → D) (gs : List (Tr D → D)) : Zcz := fun E call t h => Zh5 call (g t) (Zky gs t) h
def Zs1 (f : Opd) (gs : List (Tr D → D)) : Zcz :=
  match f with
  | .d (.v (.func (.func n) ⟨[]⟩ ⟨[]⟩)) => Zw n gs
  | f => Z45 (fe f) gs
theorem Z09 (f : Opd) (args : List Opd) (E : Env) (call : Call) (t : Tr D) (h : H) : Zs1 f (args.map fe) E call t h = Zhl f args E call (act t) h := by
  unfold Zs1
  split
  · simp [Zw,Zhl,AAct.eval,Zh5,Zs2]
  · simp only [Z45,Zhl,Zs2,YC]
def Zxn (fn : Fn) (xs ys : List (Tr D → D)) : Zcz := fun E call t h => .ok (.func fn (Zky xs t) (Zky ys t)) h
def fbi (b : Builtin) (ts : Array TypeId) (ty : TypeId) (cs : Array Bool) (gs : List (Tr D → D)) : Zcz := fun E call t h =>
  match Zgj (Zky gs t) with
  | some vs => match Zf9 E.P (builtin b ts ty cs vs.toArray) with
    | some (.value v) => .ok (.of v) h
    | _ => .fail "builtin"
  | none => .fail "builtin: args"
def u1 (r : Opd → Env → Call → AAct → H → O D) (g : Tr D → D) : Zcz := fun E call t h => r (.d (g t)) E call (act t) h
def u2 (r : Opd → Opd → Env → Call → AAct → H → O D) (g1 g2 : Tr D → D) : Zcz := fun E call t h => r (.d (g1 t)) (.d (g2 t)) E call (act t) h
def u3 (r : Opd → Opd → Opd → Env → Call → AAct → H → O D) (g1 g2 g3 : Tr D → D) : Zcz := fun E call t h => r (.d (g1 t)) (.d (g2 t)) (.d (g3 t)) E call (act t) h
def og (g : Option (Tr D → D)) (t : Tr D) : Option Opd :=
  match g with
  | some g => some (.d (g t))
  | none => none
def Zwe (x : Option Opd) : Option (Tr D → D) :=
  match x with
  | some x => some (fe x)
  | none => none
def uo (r : Opd → Option Opd → Option Opd → Env → Call → AAct → H → O D) (g : Tr D → D) (lo hi : Option (Tr D → D)) : Zcz := fun E call t h => r (.d (g t)) (og lo t) (og hi t) E call (act t) h
theorem og_eq (x : Option Opd) (t : Tr D) : (og (Zwe x) t).map (act t).eval = x.map (act t).eval := by
  cases x <;> simp [og,Zwe,AAct.eval,YC]
def Z5n (n : Nat) (s : List Nat) : Option (List Nat) := Nat.rec (motive := fun _ => List Nat → Option (List Nat)) some (fun _ ih s => List.rec (motive := fun _ => Option (List Nat)) none (fun _ r _ => ih r) s) n s
def Z2f (n : Nat) (s : List Nat) : Option (List Nat) := Z6f n s
theorem Zpg : ∀ (n : Nat) (s : List Nat),Z5n n s = bif Nat.ble n s.length then some (s.drop n) else none
  | 0,s => by
    have e : Nat.ble 0 s.length = true := by rw [Nat.ble_eq]; exact Nat.zero_le _
    rw [e]; rfl
  | n + 1,[] => rfl
  | n + 1,b :: r => (Zpg n r).trans rfl
theorem Z2e (n : Nat) (s : List Nat) : Z2f n s = bif Nat.ble n s.length then some (s.take n) else none := by
  rw [Z2f,Zjs,List.length_take]
  have : Nat.beq (min n s.length) n = Nat.ble n s.length := by
    rw [Bool.eq_iff_iff,Nat.beq_eq,Nat.ble_eq]; omega
  rw [this]
def Zcv (g : Tr D → D) (lo hi : Option (Tr D → D)) : Zcz := fun E call t h =>
  match g t with
  | .str s => (match hi with
    | none => (match lo with
      | none => .ok (.str s) h
      | some l => (match l t with
        | .int _ (.ofNat n) => (match Z5n n s with
          | some r => .ok (.str r) h
          | none => .fail "slice: string")
        | _ => .fail "slice: string"))
    | some k => (match k t with
      | .int _ (.ofNat n) => (match Z2f n s with
        | some r => (match lo with
          | none => .ok (.str r) h
          | some l => (match l t with
            | .int _ (.ofNat m) => (match Z5n m r with
              | some q => .ok (.str q) h
              | none => .fail "slice: string")
            | _ => .fail "slice: string"))
        | none => .fail "slice: string")
      | _ => .fail "slice: string"))
  | _ => .fail "slice: string"
theorem Zrb (x : Opd) (lo hi : Option Opd) (E : Env) (call : Call) (t : Tr D) (h : H) : Zcv (fe x) (Zwe lo) (Zwe hi) E call t h = Zb7 x lo hi E call (act t) h := by
  unfold Zcv Zb7
  rw [YC]
  cases (act t).eval x
  case str s =>
    cases hi with
    | none =>
      cases lo with
      | none => simp [Zwe,Wh,Z06,Z6e]
      | some l =>
        simp only [Zwe,YC,Option.map_none,Option.map_some,Wh,Z06,Z6e]
        cases (act t).eval l
        case int k n =>
          cases n with
          | ofNat n =>
            simp only [Zpg]
            cases hb : Nat.ble n s.length with
            | false => rfl
            | true =>
              simp only [cond_true]
              rw [List.take_of_length_le (by rw [List.length_drop]; exact Nat.le_refl _)]
          | negSucc n => rfl
        all_goals rfl
    | some k =>
      simp only [Zwe,YC,Option.map_some,Wh,Z06]
      cases (act t).eval k
      case int q n =>
        cases n with
        | ofNat n =>
          simp only [Z2e]
          cases hb : Nat.ble n s.length with
          | false => rfl
          | true =>
            have hn : n ≤ s.length := Nat.le_of_ble_eq_true hb
            simp only [cond_true]
            cases lo with
            | none => simp [Z6e]
            | some l =>
              simp only [Option.map_some,Z6e,YC]
              cases (act t).eval l
              case int q m =>
                cases m with
                | ofNat m =>
                  simp only [Zpg,List.length_take,Nat.min_eq_left hn]
                  cases Nat.ble m n with
                  | false => rfl
                  | true => simp only [cond_true,List.drop_take]
                | negSucc m => rfl
              all_goals rfl
        | negSucc n => rfl
      all_goals rfl
  all_goals rfl
def Zcw : COp → Zcz
  | .mv x => Zh (fe x)
  | .mvs x => u1 Ziz (fe x)
  | .pick c x y => Yb (fe c) (fe x) (fe y)
  | .alloc t z => Zo t z
  | .box t x => Zai t (fe x)
  | .build z ps => YQ z (Zo2 ps)
  | .buildSl e n z ps => Xu e n z (Zo2 ps)
  | .ld1 x => Zl (fe x)
  | .ldN n x => YB n (fe x)
  | .st n x y => ZF n (fe x) (fe y)
  | .nilCheck x => u1 Z4 (fe x)
  | .bin op t ox oy x y => fbin op t ox oy (fe x) (fe y)
  | .un op x => u1 (Ze7 op) (fe x)
  | .cint k x => VM k (fe x)
  | .s2b e x => u1 (Zn4 e) (fe x)
  | .b2s x => u1 Zj8 (fe x)
  | .conv s t x => u1 (Zgg s t) (fe x)
  | .iface t x => u1 (U5 t) (fe x)
  | .mkf fn xs ys => Zxn fn (xs.map fe) (ys.map fe)
  | .mkmap => Zo7
  | .mksl e s b z l c => u2 (Zje e s b z) (fe l) (fe c)
  | .slstr x lo hi => Zcv (fe x) (Zwe lo) (Zwe hi)
  | .slsl s x lo hi => uo (Zd3 s) (fe x) (Zwe lo) (Zwe hi)
  | .slarr n s x lo hi => uo (Zb8 n s) (fe x) (Zwe lo) (Zwe hi)
  | .fa n x => u1 (Zt n) (fe x)
  | .fld ag off n x => u1 (Zn9 ag off n) (fe x)
  | .ixa n s x i => u2 (Z3i n s) (fe x) (fe i)
  | .ixs s x i => u2 (ZZ s) (fe x) (fe i)
  | .idxa ag n s x i => u2 (Zn7 ag n s) (fe x) (fe i)
  | .idxs x i => u2 Zjf (fe x) (fe i)
  | .apps e s x => u2 (Zoc e) (fe s) (fe x)
  | .lookV kt z x k ok => u2 (fun x k => Zb9 kt z x k ok) (fe x) (fe k)
  | .msetV kt m k x => u3 (Zex kt) (fe m) (fe k) (fe x)
  | .look f z x k ok => u2 (fun x k => Ze9 f z x k ok) (fe x) (fe k)
  | .mset f m k x => u3 (Zgf f) (fe m) (fe k) (fe x)
  | .tas t z x ok => u1 (fun x => Zew t z x ok) (fe x)
  | .ext i x => u1 (Xe i) (fe x)
  | .call f args => Zs1 f (args.map fe)
  | .app e n b s x => u2 (Zbo e n b) (fe s) (fe x)
  | .lens x => u1 Vm (fe x)
  | .len x => u1 Yy (fe x)
  | .lenm x => u1 Zfa (fe x)
  | .copy n d s => u2 (Zlh n) (fe d) (fe s)
  | .bi b ts t cs args => fbi b ts t cs (args.map fe)
  | .panic x => u1 US (fe x)
  | .dfr x => u1 Zob (fe x)
  | .rcv => fun E call t h => Zuj E call (act t) h
theorem Zlu (o : COp) (E : Env) (call : Call) (t : Tr D) (h : H) : Zcw o E call t h = Vh o E call (act t) h := by
  cases o
  case bin op ty ox oy x y => exact (Z8i op ty ox oy _ _ E call t h).trans (by simp only [YC]; rfl)
  case ld1 x => exact Zzf _ E call t h x (YC x t).symm
  case ldN n x => exact Zze n _ E call t h x (YC x t).symm
  case st n x y => exact Z8d n _ _ E call t h x y (YC x t).symm (YC y t).symm
  case call f args => exact Z09 f args E call t h
  case build z ps => simp only [Zcw,YQ,Vh,Za0,Zgt,Zpb]; rfl
  case buildSl e n z ps => simp only [Zcw,Xu,Vh,U6,Zgt,Zpb,Zbe]; cases Zbq (act t) z ps <;> rfl
  case mkf fn xs ys => simp only [Zcw,Zxn,Vh,Zi0,Zs2]
  case bi b ts ty cs args => simp only [Zcw,fbi,Vh,Zse,Zs2]; rfl
  case alloc ty z => simp only [Zcw,Zo,Vh,Zdo,Zbe]
  case box ty x => simp only [Zcw,Zai,Vh,Zj6,Zbe,YC,Zdz]
  case mkmap => simp only [Zcw,Zo7,Vh,Zdn,Zbe]
  case slstr x lo hi => exact Zrb x lo hi E call t h
  case slsl s x lo hi => simp only [Zcw,uo,Vh,Zlc,Za1,og_eq,YC,AAct.eval]
  case ixs => simp only [Zcw,u2,YC,Zn6]; rfl
  case idxs => simp only [Zcw,u2,YC,Zlf]; rfl
  case lens => simp only [Zcw,u1,YC,Zle]; rfl
  case fld => simp only [Zcw,u1,YC,Zn8]; rfl
  case fa => simp only [Zcw,u1,YC,Zsd]; rfl
  case ext => simp only [Zcw,u1,YC,Zoa]; rfl
  case app => simp only [Zcw,u2,YC,Zod]; rfl
  case apps => simp only [Zcw,u2,YC,Zli]; rfl
  case look => simp only [Zcw,u2,YC,Zid]; rfl
  case mset => simp only [Zcw,u3,YC,Zic]; rfl
  case mksl => simp only [Zcw,u2,YC,Zld]; rfl
  case s2b => simp only [Zcw,u1,YC,Zn3]; rfl
  case b2s => simp only [Zcw,u1,YC,Zj7]; rfl
  case ixa => simp only [Zcw,u2,YC,Zul]; rfl
  case idxa => simp only [Zcw,u2,YC,Zlg]; rfl
  case slarr n s x lo hi => simp only [Zcw,uo,Vh,Zb8,og_eq,YC,AAct.eval]
  case cint k x =>
    simp only [Zcw,VM,Vh,Zgh,YC,Zj2]; cases (act t).eval x <;> rfl
  case pick c x y =>
    simp only [Zcw,Yb,Vh,Zge,YC]
    cases (act t).eval c <;> try rfl
    rename_i v
    cases v <;> try rfl
    rename_i b
    cases b <;> rfl
  case nilCheck => simp only [Zcw,u1,YC,Ze8]; rfl
  case len => simp only [Zcw,u1,YC,Zn5]; rfl
  case un => simp only [Zcw,u1,YC,Zyk]; rfl
  case mv x => simp only [Zcw,Zh,Vh,Zsc,YC]
  all_goals first
    | rfl
    | (simp only [Zcw,u1,u2,u3,YC]; rfl)
end
end Go.Abs
namespace Go.Abs
noncomputable section
def Ok (x : XT) (y : X) : Prop :=
  match x with
  | .out e t h => y = .out e (act t) h
  | .panic d h => ∃ a : AAct,y = .panic d a h ∧ a.defers = []
  | .fail _ => True
abbrev FR := Env → Call → Tr D → H → XT
abbrev FD := Env → Call → List Rec → Tr D → H → XT
abbrev FC := Env → Call → Nat → Tr D → H → XT
def Z2 : FR := fun E call t h => .out .normal t h
def fo (f : Zcz) (p : D → Tr D → Tr D) (k : FR) : FR := fun E call t h => O.rec (motive := fun _ => XT) (fun d h' => k E call (p d t) h') (fun d h' => .panic d h') (fun w => .fail w) (f E call t h)
def wanted (d : D) (want : Bool) : Bool := dBb d (fun b => Bool.rec (motive := fun _ => Bool) (Bool.rec (motive := fun _ => Bool) true false want) want b) false
def Yl (g : Tr D → D) (want : Bool) (f : Zcz) (p : D → Tr D → Tr D) (k : FR) : FR := fun E call t h =>
  Bool.rec (motive := fun _ => XT) (k E call (p ZD t) h) (fo f p k E call t h) (wanted (g t) want)
def Zo3 : List CO → FR
  | [] => Z2
  | o :: r => match o.guard with
    | none => fo (Zcw o.op) (Zfu o.dst) (Zo3 r)
    | some (t,w) => Yl (gF (t + 1) t) w (Zcw o.op) (Zfu o.dst) (Zo3 r)
theorem Zma {o : CO} {t : Tr D} (hg : o.guard = none) : Zn (act t) o = true := by simp [Zn,hg]
theorem Zer {o : CO} {t : Tr D} {n : Nat} {w : Bool} (hg : o.guard = some (n,w)) : Zn (act t) o = wanted (gF (n + 1) n t) w := by
  simp only [Zn,hg,Zra _ _ t (Nat.lt_succ_self n)]
  show (match t.get n with
    | some (.v (.bool b)) => bif b then w else !w
    | _ => false) = _
  cases t.get n with
  | none => rfl
  | some d =>
    cases d <;> try rfl
    rename_i x
    cases x <;> try rfl
    rename_i b
    cases b <;> cases w <;> rfl
theorem Zsz (E : Env) (call : Call) : ∀ (l : List CO) (t : Tr D) (h : H),Ok (Zo3 l E call t h) (ZP E call l (act t) h)
  | [],t,h => rfl
  | o :: r,t,h => by
    have key : Zn (act t) o = true → Ok (fo (Zcw o.op) (Zfu o.dst) (Zo3 r) E call t h) (ZP E call (o :: r) (act t) h) := by
      intro hw
      simp only [fo,Zlu,ZP,hw,cond_true]
      split
      · rename_i f he
        simp only [he,Vh,Zob,Ok]
      · show Ok (O.rec (motive := fun _ => XT) (fun d h' => Zo3 r E call (Zfu o.dst d t) h') (fun d h' => .panic d h') (fun w => .fail w) (Vh o.op E call (act t) h)) (match UO E call (act t) o.op h with
          | .ok d h => ZP E call r ((act t).put o.dst d) h
          | .panic d h => .panic d (act t) h
          | .fail w => .fail w)
        rw [UO]
        cases Vh o.op E call (act t) h with
        | ok d h' =>
          show Ok (Zo3 r E call (Zfu o.dst d t) h') (ZP E call r ((act t).put o.dst d) h')
          rw [← Ze2]; exact Zsz E call r _ _
        | panic d h' => exact ⟨act t,rfl,rfl⟩
        | fail w => exact trivial
    cases hg : o.guard with
    | none => simp only [Zo3,hg]; exact key (Zma hg)
    | some q =>
      obtain ⟨n,w⟩ := q
      simp only [Zo3,hg,Yl]
      cases hw : wanted (gF (n + 1) n t) w with
      | true => simp only [cond_true]; exact key ((Zer hg).trans hw)
      | false =>
        have : Zn (act t) o = false := (Zer hg).trans hw
        simp only [cond_false,ZP,this]
        rw [← Ze2]; exact Zsz E call r _ _
def Xg : FD := fun E call recs t h => .out .normal t h
def fdbad : FD := fun E call recs t h => .fail "draw"
def Ze (f : Zcz) (p : D → Tr D → Tr D) (k : FD) : FD := fun E call recs t h => O.rec (motive := fun _ => XT) (fun d h' => k E call recs (p d t) h') (fun _ _ => .fail "draw: panic") (fun w => .fail w) (f E call t h)
def Z6d (o : Option (List D)) (k : List D → XT) (z : XT) : XT := Option.rec (motive := fun _ => XT) z k o
def Xw (i : Nat) (inc : List Nat) (n : Nat) (g : Tr D → D) (f : Zcz) (p : D → Tr D → Tr D) (k : FD) : FD := fun E call recs t h => O.rec (motive := fun _ => XT)
  (fun d h' => Z6d (Z0j h (g t) n) (fun cs => Bool.rec (motive := fun _ => XT) (.fail "draw: read") (k E call (.rd i (g t) cs :: recs) (p d t) h') (rkF inc (g t) cs recs)) (.fail "draw: cells")) (fun _ _ => .fail "draw: panic") (fun w => .fail w) (f E call t h)
def Z8g (i : Nat) (inc : List Nat) (g : Tr D → D) (f : Zcz) (p : D → Tr D → Tr D) (k : FD) : FD := fun E call recs t h => O.rec (motive := fun _ => XT)
  (fun d h' => Z6d (Z0j h (Ziy (g t)).1 (Ziy (g t)).2) (fun cs => Bool.rec (motive := fun _ => XT) (.fail "draw: read") (k E call (.rd i (Ziy (g t)).1 cs :: recs) (p d t) h') (rkF inc (Ziy (g t)).1 cs recs)) (.fail "draw: cells")) (fun _ _ => .fail "draw: panic") (fun w => .fail w) (f E call t h)
def Zg8 (i : Nat) (inc : List Nat) (f : Zcz) (p : D → Tr D → Tr D) (k : FD) : FD := fun E call recs t h => O.rec (motive := fun _ => XT)
  (fun d h' => Bool.rec (motive := fun _ => XT) (.fail "draw: loud") (k E call (.loud i h :: recs) (p d t) h') (lkF inc h' recs)) (fun _ _ => .fail "draw: panic") (fun w => .fail w) (f E call t h)
def Zju (i : Nat) (inc : List Nat) (f : Zcz) (p : D → Tr D → Tr D) (k : FD) : FD := fun E call recs t h => O.rec (motive := fun _ => XT)
  (fun d h' => Bool.rec (motive := fun _ => XT) (.fail "draw: loud") (k E call (.loud i h :: recs) (p d t) h') (lkF inc h' recs)) (fun d h' => .panic d h') (fun w => .fail w) (f E call t h)
def Zo1 : COp → Bool
  | .call .. => true
  | _ => false
def Zfv (g : Tr D → D) (want : Bool) (y : FD → FD) (p : D → Tr D → Tr D) (k : FD) : FD := fun E call recs t h =>
  Bool.rec (motive := fun _ => XT) (k E call recs (p ZD t) h) (y k E call recs t h) (wanted (g t) want)
def Z44 (i : Nat) (inc : List Nat) (lt : Bool) (o : CO) : FD → FD :=
  match o.op with
  | .ld1 x => Xw i inc 1 (fe x) (Zcw o.op) (Zfu o.dst)
  | .ldN n x => Xw i inc n (fe x) (Zcw o.op) (Zfu o.dst)
  | .b2s x => Z8g i inc (fe x) (Zcw o.op) (Zfu o.dst)
  | _ => bif Y8 o.op then (bif lt && Zo1 o.op then Zju i inc (Zcw o.op) (Zfu o.dst) else Zg8 i inc (Zcw o.op) (Zfu o.dst)) else Ze (Zcw o.op) (Zfu o.dst)
def Zg7 : Nat → List (List Nat) → List CO → FD
  | _,_,[] => Xg
  | _,[],_ :: _ => fdbad
  | i,inc :: Zr,o :: r => match o.guard with
    | none => Z44 i inc (later i Zr) o (Zg7 (i + 1) Zr r)
    | some (t,w) => Zfv (gF (t + 1) t) w (Z44 i inc (later i Zr) o) (Zfu o.dst) (Zg7 (i + 1) Zr r)
theorem Zvl (E : Env) (call : Call) : ∀ (l : List CO) (i : Nat) (recs : List Rec) (Zr : List (List Nat)) (t : Tr D) (h : H),Ok (Zg7 i Zr l E call recs t h) (Yk E call i recs Zr l (act t) h)
  | [],i,recs,Zr,t,h => by cases Zr <;> rfl
  | o :: r,i,recs,[],t,h => trivial
  | o :: r,i,recs,inc :: Zr,t,h => by
    have ih := fun recs t h => Zvl E call r (i + 1) recs Zr t h
    have key : Zn (act t) o = true → Ok (Z44 i inc (later i Zr) o (Zg7 (i + 1) Zr r) E call recs t h) (Yk E call i recs (inc :: Zr) (o :: r) (act t) h) := by
      intro hw
      have rd : ∀ n x,YA (act t) o.op = some ((act t).eval x,n) → Ok (Xw i inc n (fe x) (Zcw o.op) (Zfu o.dst) (Zg7 (i + 1) Zr r) E call recs t h) (Yk E call i recs (inc :: Zr) (o :: r) (act t) h) := by
        intro n x hr
        simp only [Xw,Zct,Zgb,Zlu,Yk,hw,cond_true,UO]
        cases Vh o.op E call (act t) h with
        | ok d h' =>
          simp only [hr,YC]
          cases Z3 h ((act t).eval x) n with
          | none => exact trivial
          | some cs =>
            simp only [Z6d]
            cases XA inc ((act t).eval x) cs recs with
            | false => exact trivial
            | true => simp only [cond_true]; rw [← Ze2]; exact ih _ _ _
        | panic d h' => exact trivial
        | fail w => exact trivial
      have rb : ∀ x,YA (act t) o.op = some (Ziy ((act t).eval x)) → Ok (Z8g i inc (fe x) (Zcw o.op) (Zfu o.dst) (Zg7 (i + 1) Zr r) E call recs t h) (Yk E call i recs (inc :: Zr) (o :: r) (act t) h) := by
        intro x hr
        simp only [Z8g,Zct,Zgb,Zlu,Yk,hw,cond_true,UO]
        cases Vh o.op E call (act t) h with
        | ok d h' =>
          simp only [hr,YC]
          cases Z3 h (Ziy ((act t).eval x)).1 (Ziy ((act t).eval x)).2 with
          | none => exact trivial
          | some cs =>
            simp only [Z6d]
            cases XA inc (Ziy ((act t).eval x)).1 cs recs with
            | false => exact trivial
            | true => simp only [cond_true]; rw [← Ze2]; exact ih _ _ _
        | panic d h' => exact trivial
        | fail w => exact trivial
      have oth : YA (act t) o.op = none → Ok ((bif Y8 o.op then (bif later i Zr && Zo1 o.op then Zju i inc (Zcw o.op) (Zfu o.dst) else Zg8 i inc (Zcw o.op) (Zfu o.dst)) else Ze (Zcw o.op) (Zfu o.dst)) (Zg7 (i + 1) Zr r) E call recs t h) (Yk E call i recs (inc :: Zr) (o :: r) (act t) h) := by
        intro hr
        cases hl : Y8 o.op with
        | true =>
          cases hb : later i Zr && Zo1 o.op with
          | false =>
            simp only [cond_true,cond_false,Zg8,Zfe,Zlu,Yk,hw,UO]
            cases Vh o.op E call (act t) h with
            | ok d h' =>
              simp only [hr,hl,cond_true]
              cases YJ inc h' recs with
              | false => exact trivial
              | true => simp only [cond_true]; rw [← Ze2]; exact ih _ _ _
            | panic d h' => exact trivial
            | fail w => exact trivial
          | true =>
            simp only [Bool.and_eq_true] at hb
            simp only [cond_true,Zju,Zfe,Zlu,Yk,hw,UO]
            cases Vh o.op E call (act t) h with
            | ok d h' =>
              simp only [hr,hl,cond_true]
              cases YJ inc h' recs with
              | false => exact trivial
              | true => simp only [cond_true]; rw [← Ze2]; exact ih _ _ _
            | panic d h' =>
              have h0 : Zo0 (act t).defers = true := rfl
              simp only [hl,hb.1,h0,Bool.true_or,Bool.and_self,cond_true]
              exact ⟨act t,rfl,rfl⟩
            | fail w => exact trivial
        | false =>
          simp only [cond_true,cond_false,Ze,Zlu,Yk,hw,UO]
          cases Vh o.op E call (act t) h with
          | ok d h' => simp only [hr,hl,cond_false]; rw [← Ze2]; exact ih _ _ _
          | panic d h' => exact trivial
          | fail w => exact trivial
      obtain ⟨od,og,oo⟩ := o
      cases oo with
      | ld1 x => exact rd 1 x rfl
      | ldN n x => exact rd n x rfl
      | b2s x => exact rb x rfl
      | _ => exact oth rfl
    cases hg : o.guard with
    | none => simp only [Zg7,hg]; exact key (Zma hg)
    | some q =>
      obtain ⟨n,w⟩ := q
      simp only [Zg7,hg,Zfv]
      cases hw : wanted (gF (n + 1) n t) w with
      | true => simp only [cond_true]; exact key ((Zer hg).trans hw)
      | false =>
        have : Zn (act t) o = false := (Zer hg).trans hw
        simp only [cond_false,Yk,this]
        rw [← Ze2]; exact ih _ _ _
def Zx : FC := fun E call n t h => Nat.rec (motive := fun _ => XT) (.fail "fuel") (fun _ _ => .out .normal t h) n
def Vi (id : Nat) : FC := fun E call n t h => Nat.rec (motive := fun _ => XT) (.fail "fuel") (fun _ _ => .out (.exit id) t h) n
def Zv : FC := fun E call n t h => Nat.rec (motive := fun _ => XT) (.fail "fuel") (fun _ _ => .out .ret t h) n
def Z8j : FC := fun E call n t h => .fail "bad"
def Z1 (r : FR) : FC := fun E call n t h => Nat.rec (motive := fun _ => XT) (.fail "fuel") (fun _ _ => r E call t h) n
def Xf (r : FD) : FC := fun E call n t h => Nat.rec (motive := fun _ => XT) (.fail "fuel") (fun _ _ => r E call [] t h) n
def Z0 (x y : FC) : FC := fun E call n t h => Nat.rec (motive := fun _ => XT) (.fail "fuel") (fun n _ => XT.rec (motive := fun _ => XT) (fun e t h => AExit.rec (motive := fun _ => XT) (y E call n t h) (fun id => .out (.exit id) t h) (.out .ret t h) e) (fun d h => .panic d h) (fun w => .fail w) (x E call n t h)) n
def Zg (g : Tr D → D) (x y : FC) : FC := fun E call n t h => Nat.rec (motive := fun _ => XT) (.fail "fuel") (fun n _ => dBX (g t) (fun b => Bool.rec (motive := fun _ => XT) (y E call n t h) (x E call n t h) b) (.fail "cond")) n
def ZA (id : Nat) (x : FC) : FC := fun E call n t h => Nat.rec (motive := fun _ => XT) (.fail "fuel") (fun n _ => XT.rec (motive := fun _ => XT) (fun e t h => AExit.rec (motive := fun _ => XT) (.out .normal t h) (fun k => Bool.rec (motive := fun _ => XT) (.out (.exit k) t h) (.out .normal t h) (Nat.beq k id)) (.out .ret t h) e) (fun d h => .panic d h) (fun w => .fail w) (x E call n t h)) n
def Xy (x : FC) (E : Env) (call : Call) (n : Nat) : Tr D → H → XT := Nat.rec (motive := fun _ => Tr D → H → XT) (fun _ _ => .fail "fuel") (fun n ih t h => XT.rec (motive := fun _ => XT) (fun e t h => AExit.rec (motive := fun _ => XT) (ih t h) (fun k => .out (.exit k) t h) (.out .ret t h) e) (fun d h => .panic d h) (fun w => .fail w) (x E call n t h)) n
theorem Zgr (x : FC) (E : Env) (call : Call) (n : Nat) (t : Tr D) (h : H) : Xy x E call (n + 1) t h = XT.rec (motive := fun _ => XT) (fun e t h => AExit.rec (motive := fun _ => XT) (Xy x E call n t h) (fun k => .out (.exit k) t h) (.out .ret t h) e) (fun d h => .panic d h) (fun w => .fail w) (x E call n t h) := rfl
def Xh : CC → FC
  | .skip => Zx
  | .ops l => Z1 (Zo3 l)
  | .draw inc l => Xf (Zg7 0 inc l)
  | .seq a b => Z0 (Xh a) (Xh b)
  | .cond c a b => Zg (fe c) (Xh a) (Xh b)
  | .block id c => ZA id (Xh c)
  | .loop c => Xy (Xh c)
  | .exit id => Vi id
  | .ret => Zv
  | .stop => Z8j
  | .back .. => Z8j
theorem Zhy (E : Env) (call : Call) : ∀ (c : CC) (n : Nat) (t : Tr D) (h : H),Ok (Xh c E call n t h) (Zc E call n c (act t) h) := by
  intro c
  induction c with
  | skip => intro n t h; cases n <;> first | trivial | rfl
  | ops l => intro n t h; cases n with
    | zero => trivial
    | succ n => exact Zsz E call l t h
  | draw inc l => intro n t h; cases n with
    | zero => trivial
    | succ n => exact Zvl E call l 0 [] inc t h
  | seq a b iha ihb =>
    intro n t h
    cases n with
    | zero => trivial
    | succ n =>
      have h1 := iha n t h
      simp only [Xh,Z0,Zc]
      cases hx : Xh a E call n t h with
      | out e t' h' =>
        rw [hx] at h1
        have h1 : Zc E call n a (act t) h = .out e (act t') h' := h1
        rw [h1]
        cases e with
        | normal => exact ihb n t' h'
        | exit id => rfl
        | ret => rfl
      | panic d h' =>
        rw [hx] at h1
        obtain ⟨a',h2,h3⟩ := h1
        rw [h2]; exact ⟨a',rfl,h3⟩
      | fail w => trivial
  | cond c a b iha ihb =>
    intro n t h
    cases n with
    | zero => trivial
    | succ n =>
      simp only [Xh,Zg,Zc,YC]
      cases (act t).eval c <;> try trivial
      rename_i v
      cases v <;> try trivial
      rename_i b'
      cases b' with
      | true => exact iha n t h
      | false => exact ihb n t h
  | block id a iha =>
    intro n t h
    cases n with
    | zero => trivial
    | succ n =>
      have h1 := iha n t h
      simp only [Xh,ZA,Zc]
      cases hx : Xh a E call n t h with
      | out e t' h' =>
        rw [hx] at h1
        have h1 : Zc E call n a (act t) h = .out e (act t') h' := h1
        rw [h1]
        cases e with
        | normal => rfl
        | exit k => simp only []; cases Nat.beq k id <;> rfl
        | ret => rfl
      | panic d h' =>
        rw [hx] at h1
        obtain ⟨a',h2,h3⟩ := h1
        rw [h2]; exact ⟨a',rfl,h3⟩
      | fail w => trivial
  | loop a iha =>
    intro n
    induction n with
    | zero => intro t h; trivial
    | succ n ihn =>
      intro t h
      have h1 := iha n t h
      simp only [Xh,Zgr,Zc]
      cases hx : Xh a E call n t h with
      | out e t' h' =>
        rw [hx] at h1
        have h1 : Zc E call n a (act t) h = .out e (act t') h' := h1
        rw [h1]
        cases e with
        | normal => exact ihn t' h'
        | exit k => rfl
        | ret => rfl
      | panic d h' =>
        rw [hx] at h1
        obtain ⟨a',h2,h3⟩ := h1
        rw [h2]; exact ⟨a',rfl,h3⟩
      | fail w => trivial
  | exit id => intro n t h; cases n <;> first | trivial | rfl
  | ret => intro n t h; cases n <;> first | trivial | rfl
  | stop => intro n t h; trivial
  | back => intro n t h; trivial
abbrev ZV := Env → Nat → Call → List D → H → O D
def Z41 : List CRes → Tr D → H → O D
  | [] => fun t h => .ok (.tup []) h
  | [.t a] => fun t h => .ok (gF (a + 1) a t) h
  | [.t a,.t b] => fun t h => .ok (.tup [gF (a + 1) a t,gF (b + 1) b t]) h
  | [.t a,.t b,.t c] => fun t h => .ok (.tup [gF (a + 1) a t,gF (b + 1) b t,gF (c + 1) c t]) h
  | l => fun t h => UP ⟨l,.skip⟩ (act t) h
theorem geq (a : Nat) (t : Tr D) : gF (a + 1) a t = (act t).eval (.t a) := YC (.t a) t
theorem Zzc (l : List CRes) (c : CC) (t : Tr D) (h : H) : Z41 l t h = Zbj ⟨l,c⟩ (act t) h := by
  unfold Z41
  split <;> simp only [Zdw,Zbj,Xl,Z32,geq]
def Zef (i : Nat) (ss : List (D → Tr D → Tr D)) (xs : List D) (t : Tr D) : Tr D := List.rec (motive := fun _ => Nat → List (D → Tr D → Tr D) → Tr D → Tr D) (fun _ _ t => t) (fun x xs ih i ss t => List.rec (motive := fun _ => Tr D) (Tr.ofListFrom i (x :: xs) t) (fun s ss _ => ih (Nat.succ i) ss (s x t)) ss) xs i ss t
def Zty : Nat → Nat → List (D → Tr D → Tr D)
  | 0,_ => []
  | k + 1,i => pF (i + 1) i :: Zty k (i + 1)
theorem Zvm : ∀ (xs : List D) (k i : Nat) (t : Tr D),Zef i (Zty k i) xs t = Tr.ofListFrom i xs t
  | [],k,i,t => by cases k <;> rfl
  | x :: xs,0,i,t => rfl
  | x :: xs,k + 1,i,t => by
    show Zef (i + 1) (Zty k (i + 1)) xs (pF (i + 1) i x t) = _
    rw [Zvm xs k (i + 1),Zoi]; rfl
def Zbg (ss : List (D → Tr D → Tr D)) (res : Tr D → H → O D) (body : FC) : ZV := fun E n call args h => XT.rec (motive := fun _ => O D) (fun e t h => AExit.rec (motive := fun _ => O D) (res t h) (fun _ => .fail "exit") (res t h) e) (fun d h => .panic d h) (fun w => .fail w) (body E call n (Zef 0 ss args .nil) h)
def Zxp (k : Nat) (c : CFn) : ZV := Zbg (Zty k 0) (Z41 c.results) (Xh c.body)
def Ze1 (c : CFn) : ZV := fun E n call args h => match Zc E call n c.body (start args none) h with
  | .out e a h => match e with
    | .exit _ => .fail "exit"
    | _ => Vg E call n c none a h
  | .panic d a h => Vg E call n c (some d) a h
  | .fail w => .fail w
def YK (g : List D → H → O D) : ZV := fun E n call args h => g args h
def ZI (E : Env) (T : Nat → ZV) (n : Nat) : Call := Nat.rec (motive := fun _ => Call) (fun f args h => .fail "fuel") (fun n ih f args h => T f E n ih args h) n
def Zek (o : O D) : Prop :=
  match o with
  | .fail _ => False
  | _ => True
theorem Z8h (E : Env) (k : Nat) (c : CFn) (n : Nat) (call : Call) (args : List D) (h : H) (hn : Zek (Zxp k c E n call args h)) : Zxp k c E n call args h = Ze1 c E n call args h := by
  have hs : start args none = act (Zef 0 (Zty k 0) args .nil) := by rw [Zvm]; rfl
  have h1 := Zhy E call c.body n (Zef 0 (Zty k 0) args .nil) h
  rw [← hs] at h1
  simp only [Zxp,Zbg,Ze1] at hn ⊢
  cases hx : Xh c.body E call n (Zef 0 (Zty k 0) args .nil) h with
  | out e t' h' =>
    rw [hx] at h1 hn
    have h1 : Zc E call n c.body (start args none) h = .out e (act t') h' := h1
    rw [h1]
    cases e with
    | normal => exact Zzc c.results c.body t' h'
    | exit id => exact hn.elim
    | ret => exact Zzc c.results c.body t' h'
  | panic d h' =>
    rw [hx] at h1
    obtain ⟨a',h2,h3⟩ := h1
    rw [h2]
    simp only [Vg,h3]
  | fail w => rw [hx] at hn; exact hn.elim
end
end Go.Abs
namespace Go.Abs
noncomputable section
def Zg0 (call call' : Call) : Prop := ∀ f ds h,Zek (call f ds h) → call' f ds h = call f ds h
def Zcd (x : X) : Prop :=
  match x with
  | .fail _ => False
  | _ => True
section
variable {E : Env} {call call' : Call}
theorem Zx0 (hb : Zg0 call call') (f : D) (args : List D) (h : H) (hn : Zek (Zh5 call f args h)) : Zh5 call' f args h = Zh5 call f args h := by
  unfold Zh5 at hn ⊢
  split
  · exact hb _ _ _ hn
  · exact hb _ _ _ hn
  · rfl
theorem Zvw (hb : Zg0 call call') (o : COp) (a : AAct) (h : H) (hn : Zek (Vh o E call a h)) : Vh o E call' a h = Vh o E call a h := by
  cases o
  case call f args => exact Zx0 hb _ _ _ hn
  all_goals rfl
theorem Zbh (hb : Zg0 call call') : ∀ (l : List CO) (a : AAct) (h : H),Zcd (ZP E call l a h) → ZP E call' l a h = ZP E call l a h
  | [],a,h,hn => rfl
  | o :: r,a,h,hn => by
    simp only [ZP] at hn ⊢
    cases hw : Zn a o with
    | false =>
      simp only [hw,cond_false] at hn ⊢
      exact Zbh hb r _ _ hn
    | true =>
      simp only [hw,cond_true] at hn ⊢
      have oth : ∀ op : COp,Zcd (match UO E call a op h with
          | .ok d h => ZP E call r (a.put o.dst d) h
          | .panic d h => .panic d a h
          | .fail w => .fail w) → (match UO E call' a op h with
          | .ok d h => ZP E call' r (a.put o.dst d) h
          | .panic d h => .panic d a h
          | .fail w => .fail w) = (match UO E call a op h with
          | .ok d h => ZP E call r (a.put o.dst d) h
          | .panic d h => .panic d a h
          | .fail w => .fail w) := by
        intro op hn
        unfold UO at hn ⊢
        have hnf : Zek (Vh op E call a h) := by
          cases hd : Vh op E call a h with
          | ok d h' => trivial
          | panic d h' => trivial
          | fail w => rw [hd] at hn; exact hn.elim
        rw [Zvw hb op a h hnf]
        cases hd : Vh op E call a h with
        | ok d h' => rw [hd] at hn; exact Zbh hb r _ _ hn
        | panic d h' => rfl
        | fail w => rfl
      cases ho : o.op
      case dfr f =>
        simp only [ho] at hn ⊢
        split at hn
        · rename_i g x y he
          first
            | exact Zbh hb r _ _ hn
            | (split <;> first | exact Zbh hb r _ _ hn | rfl)
        · exact hn.elim
      all_goals
        simp only [ho] at hn ⊢
        rw [← ho] at hn ⊢
        exact oth o.op hn
theorem Zej (hb : Zg0 call call') : ∀ (l : List CO) (i : Nat) (recs : List Rec) (Zr : List (List Nat)) (a : AAct) (h : H),Zcd (Yk E call i recs Zr l a h) → Yk E call' i recs Zr l a h = Yk E call i recs Zr l a h
  | [],i,recs,Zr,a,h,hn => by cases Zr <;> rfl
  | o :: r,i,recs,[],a,h,hn => rfl
  | o :: r,i,recs,inc :: Zr,a,h,hn => by
    simp only [Yk] at hn ⊢
    cases hw : Zn a o with
    | false =>
      simp only [hw,cond_false] at hn ⊢
      exact Zej hb r _ _ _ _ _ hn
    | true =>
      simp only [hw,cond_true] at hn ⊢
      unfold UO at hn ⊢
      have hnf : Zek (Vh o.op E call a h) := by
        cases hd : Vh o.op E call a h with
        | ok d h' => trivial
        | panic d h' => trivial
        | fail w => rw [hd] at hn; exact hn.elim
      rw [Zvw hb o.op a h hnf]
      cases hd : Vh o.op E call a h with
      | ok d h' =>
        simp only [hd] at hn ⊢
        cases hr : YA a o.op with
        | some q =>
          obtain ⟨x,n⟩ := q
          simp only [hr] at hn ⊢
          cases hc : Z3 h x n with
          | none => rfl
          | some cs =>
            simp only [hc] at hn ⊢
            cases hk : XA inc x cs recs with
            | false => rfl
            | true => simp only [hk,cond_true] at hn ⊢; exact Zej hb r _ _ _ _ _ hn
        | none =>
          simp only [hr] at hn ⊢
          cases hl : Y8 o.op with
          | true =>
            simp only [hl,cond_true] at hn ⊢
            cases hk : YJ inc h' recs with
            | false => rfl
            | true => simp only [hk,cond_true] at hn ⊢; exact Zej hb r _ _ _ _ _ hn
          | false => simp only [hl,cond_false] at hn ⊢; exact Zej hb r _ _ _ _ _ hn
      | panic d h' => rfl
      | fail w => rfl
theorem Zpq {run run' : AAct → H → X} (hr : ∀ a h,Zcd (run a h) → run' a h = run a h) (mk : Nat → D → AAct) (a : AAct) : ∀ (l : List (Nat × D)) (h : H),Zcd (Zkw run mk a l h) → Zkw run' mk a l h = Zkw run mk a l h
  | [],h,hn => rfl
  | (i,d) :: r,h,hn => by
    simp only [Zkw] at hn ⊢
    have hnf : Zcd (run (mk i d) h) := by
      cases hd : run (mk i d) h with
      | out e a h' => trivial
      | panic d h' => trivial
      | fail w => rw [hd] at hn; exact hn.elim
    rw [hr _ _ hnf]
    cases hd : run (mk i d) h with
    | out e a' h' =>
      rw [hd] at hn
      cases e with
      | normal => exact Zpq hr mk a r h' hn
      | exit id => rfl
      | ret => rfl
    | panic d h' => rfl
    | fail w => rfl
theorem VY (hb : Zg0 call call') : ∀ (n : Nat) (c : CC) (a : AAct) (h : H),Zcd (Zc E call n c a h) → Zc E call' n c a h = Zc E call n c a h
  | 0,c,a,h,hn => rfl
  | n + 1,c,a,h,hn => by
    have nf : ∀ (c : CC) (a : AAct) (h : H) (k : X → X),(∀ w,k (.fail w) = .fail w) → Zcd (k (Zc E call n c a h)) → Zc E call' n c a h = Zc E call n c a h := fun c a h k hk hn => by
      refine VY hb n c a h ?_
      cases hd : Zc E call n c a h with
      | out e a h' => trivial
      | panic d h' => trivial
      | fail w => rw [hd,hk] at hn; exact hn.elim
    cases c with
    | skip => rfl
    | ops l => exact Zbh hb l a h hn
    | draw inc l => exact Zej hb l 0 [] inc a h hn
    | seq x y =>
      simp only [Zc] at hn ⊢
      rw [nf x a h (fun r => match r with
        | .out .normal a h => Zc E call n y a h
        | r => r) (fun _ => rfl) hn]
      cases hd : Zc E call n x a h with
      | out e a' h' =>
        rw [hd] at hn
        cases e with
        | normal => exact VY hb n y a' h' hn
        | exit id => rfl
        | ret => rfl
      | panic d h' => rfl
      | fail w => rfl
    | cond c x y =>
      simp only [Zc] at hn ⊢
      split
      · rename_i b he
        simp only [he] at hn
        cases b with
        | true => exact VY hb n x a h hn
        | false => exact VY hb n y a h hn
      · rfl
    | block id x =>
      simp only [Zc] at hn ⊢
      rw [nf x a h (fun r => match r with
        | .out (.exit k) a h => bif Nat.beq k id then .out .normal a h else .out (.exit k) a h
        | r => r) (fun _ => rfl) hn]
    | loop x =>
      simp only [Zc] at hn ⊢
      rw [nf x a h (fun r => match r with
        | .out .normal a h => Zc E call n (.loop x) a h
        | r => r) (fun _ => rfl) hn]
      cases hd : Zc E call n x a h with
      | out e a' h' =>
        rw [hd] at hn
        cases e with
        | normal => exact VY hb n (.loop x) a' h' hn
        | exit id => rfl
        | ret => rfl
      | panic d h' => rfl
      | fail w => rfl
    | exit id => rfl
    | ret => rfl
    | stop => rfl
    | back ag size gs f x y assign body =>
      simp only [Zc] at hn ⊢
      split
      · rename_i gg p he
        simp only [he] at hn
        cases hm : Ya gg gs with
        | false => rfl
        | true =>
          simp only [hm,cond_true] at hn ⊢
          split
          · rename_i s hs
            simp only [hs] at hn
            split
            · rename_i k cs hk
              simp only [hk] at hn
              refine Zpq (fun a h hn => ?_) _ a _ h hn
              rw [nf assign a h (fun r => match r with
                | .out .normal a h => Zc E call n body a h
                | r => r) (fun _ => rfl) hn]
              cases hd : Zc E call n assign a h with
              | out e a' h' =>
                rw [hd] at hn
                cases e with
                | normal => exact VY hb n body a' h' hn
                | exit id => rfl
                | ret => rfl
              | panic d h' => rfl
              | fail w => rfl
            · rfl
          · rfl
      · rfl
theorem Zv2 (hb : Zg0 call call') (n : Nat) (df : D) (r : Option D) (h h' : H) (hn : Zfh E call n df r h = some h') : Zfh E call' n df r h = some h' := by
  unfold Zfh at hn ⊢
  split
  · split
    · rename_i g x y _ p hp
      simp only [hp] at hn
      have hnf : Zcd (Zc E call n p.2 ((start (x ++ y) none).put p.1 (Zlb r)) h) := by
        cases hd : Zc E call n p.2 ((start (x ++ y) none).put p.1 (Zlb r)) h with
        | out e a h' => trivial
        | panic d h' => trivial
        | fail w => rw [hd] at hn; cases hn
      rw [VY hb n _ _ _ hnf]
      exact hn
    · rename_i hp; simp only [hp] at hn; cases hn
  · rename_i hno
    split at hn
    · rename_i g x y; exact absurd rfl (hno g x y)
    · cases hn
theorem Zh1 (hb : Zg0 call call') (n : Nat) (fn : CFn) (r : Option D) (a : AAct) (h : H) (hn : Zek (Vg E call n fn r a h)) : Vg E call' n fn r a h = Vg E call n fn r a h := by
  unfold Vg at hn ⊢
  split
  · rfl
  · rename_i df hd
    simp only [hd] at hn
    cases hc : Zfh E call n df r h with
    | none => simp only [hc] at hn; exact hn.elim
    | some h' => rw [Zv2 hb n df r h h' hc]
  · rfl
end
def Zh3 (E : Env) (n : Nat) (call : Call) (f : Nat) (args : List D) (h : H) : O D :=
  match E.lib f with
  | some g => g args h
  | none => match E.fns f with
    | none => .fail ("no function " ++ toString f)
    | some fn => Ze1 fn E n call args h
theorem Zxy (E : Env) (n f : Nat) (args : List D) (h : H) : Zdk E (n + 1) f args h = Zh3 E n (Zdk E n) f args h := by
  simp only [Zdk,Zh3,Ze1]
  cases E.lib f with
  | some g => rfl
  | none => cases E.fns f with
    | none => rfl
    | some fn =>
      simp only []
      cases Zc E (Zdk E n) n fn.body (start args none) h <;> rfl
theorem Zxk {E : Env} {call call' : Call} (hb : Zg0 call call') (fn : CFn) (n : Nat) (args : List D) (h : H) (hn : Zek (Ze1 fn E n call args h)) : Ze1 fn E n call' args h = Ze1 fn E n call args h := by
  unfold Ze1 at hn ⊢
  have hnf : Zcd (Zc E call n fn.body (start args none) h) := by
    cases hd : Zc E call n fn.body (start args none) h with
    | out e a h' => trivial
    | panic d h' => trivial
    | fail w => rw [hd] at hn; exact hn.elim
  rw [VY hb n _ _ _ hnf]
  cases hd : Zc E call n fn.body (start args none) h with
  | out e a h' =>
    rw [hd] at hn
    cases e with
    | normal => exact Zh1 hb n fn none a h' hn
    | exit id => rfl
    | ret => exact Zh1 hb n fn none a h' hn
  | panic d a h' => rw [hd] at hn; exact Zh1 hb n fn (some d) a h' hn
  | fail w => rfl
theorem Zxz {E : Env} {call call' : Call} (hb : Zg0 call call') (n f : Nat) (args : List D) (h : H) (hn : Zek (Zh3 E n call f args h)) : Zh3 E n call' f args h = Zh3 E n call f args h := by
  unfold Zh3 at hn ⊢
  split
  · rfl
  · split
    · rfl
    · rename_i h1 _ fn h2
      simp only [h1,h2] at hn
      exact Zxk hb fn n args h hn
def Zx8 (E : Env) (k : Nat) (q : ZV) : Prop := ∀ n call args h,Zek (q E n call args h) → q E n call args h = Zh3 E n call k args h
def Z3l : ZV := fun E n call args h => .fail "no function"
def Z6g (E : Env) (T : Nat → ZV) : Prop := ∀ f,Zx8 E f (T f)
theorem Z00 (E : Env) (k : Nat) : Zx8 E k Z3l := fun n call args h hn => hn.elim
theorem Z4p {E : Env} {k : Nat} {g : List D → H → O D} (hl : E.lib k = some g) : Zx8 E k (YK g) := fun n call args h hn => by
  simp only [YK,Zh3,hl]
theorem Z0z {E : Env} {k : Nat} {q : ZV} (hl : E.lib k = none) (hq : (E.fns k).map Ze1 = some q) : Zx8 E k q := fun n call args h hn => by
  cases hf : E.fns k with
  | none => rw [hf] at hq; cases hq
  | some fn =>
    rw [hf] at hq
    cases hq
    simp only [Zh3,hl,hf]
theorem Z02 {E : Env} {k m : Nat} {q : ZV} (hl : E.lib k = none) (hq : (E.fns k).map (Zxp m) = some q) : Zx8 E k q := fun n call args h hn => by
  cases hf : E.fns k with
  | none => rw [hf] at hq; cases hq
  | some fn =>
    rw [hf] at hq
    cases hq
    simp only [Zh3,hl,hf]
    exact Z8h E m fn n call args h hn
theorem Zee {E : Env} {T : Nat → ZV} (ht : Z6g E T) : ∀ n f args h,Zek (ZI E T n f args h) → Zdk E n f args h = ZI E T n f args h
  | 0,f,args,h,hn => hn.elim
  | n + 1,f,args,h,hn => by
    have h1 : ZI E T (n + 1) f args h = Zh3 E n (ZI E T n) f args h := ht f n (ZI E T n) args h hn
    rw [h1] at hn
    rw [Zxy,h1]
    exact Zxz (fun f ds h hn => Zee ht n f ds h hn) n f args h hn
def Zo5 (P : Program) (glob : Nat → Option (List D)) (f : Nat) : Option CFn :=
  match P.funcs[f]? with
  | some fn => bif fn.name == "runtime.NumGoroutine" then none else cfn P glob none fn
  | none => none
def Zxt (P : Program) (glob : Nat → Option (List D)) (f : Nat) : Option (Option Nat × CC) :=
  match P.funcs[f]? with
  | some fn => bif fn.name == "runtime.NumGoroutine" then none else Z89 P glob fn
  | none => none
def Zfw (P : Program) (glob : Nat → Option (List D)) (lib : Nat → Option (List D → H → O D)) : Env := ⟨P,Zo5 P glob,lib,Zxt P glob⟩
theorem told (P : Program) (glob : Nat → Option (List D)) (lib : Nat → Option (List D → H → O D)) (ho : P.follows .mixedOrders = true) (hlib : ∀ f lf,lib f = some lf → Zp P f lf glob) (hgrow : ∀ f lf,lib f = some lf → ∀ ds h,Xv h (lf ds h)) :
    Told P glob (Zfw P glob lib) where
  prog := rfl
  orders := ho
  fns := fun f cf hf => by
    have hf : Zo5 P glob f = some cf := hf
    unfold Zo5 at hf
    split at hf
    · rename_i fn hfn
      cases hn : fn.name == "runtime.NumGoroutine" with
      | true => rw [hn] at hf; cases hf
      | false =>
        rw [hn] at hf
        exact ⟨fn,none,hfn,hn,hf,Zku⟩
    · cases hf
  dfrs := fun f p hf => by
    have hf : Zxt P glob f = some p := hf
    unfold Zxt at hf
    split at hf
    · rename_i fn hfn
      cases hn : fn.name == "runtime.NumGoroutine" with
      | true => rw [hn] at hf; cases hf
      | false =>
        rw [hn] at hf
        exact ⟨fn,hfn,hn,hf⟩
    · cases hf
  lib := hlib
  libgrow := hgrow
end
end Go.Abs
namespace Go.Abs
noncomputable section
open Go.RowKit
def gTop (glob : Nat → Option (List D)) : G := { blk := fun _ => none,sl := fun _ _ => none,own := fun _ => none,imm := fun b o => match glob b with
  | some cs => cs[o]?
  | none => none }
def Holds (glob : Nat → Option (List D)) (w : World) : Prop := ∀ b cs o d,glob b = some cs → cs[o]? = some d → ∃ v,w.cell? ⟨b,o,none⟩ = some v ∧ ∀ g,VRel g d v
def UM : H := ⟨1,.nil⟩
theorem r0 {P : Program} {glob : Nat → Option (List D)} {w : World} (hg : Holds glob w) {top : Nat} (ht : 1 ≤ top) : R P top (gTop glob) UM w where
  obj := fun l o ho => by cases ho
  tip := fun id n e ho => by cases ho
  imm := fun b o d hd => by
    simp only [gTop] at hd
    split at hd
    · rename_i cs hc
      obtain ⟨v,hv,hr⟩ := hg b cs o d hc hd
      exact ⟨v,hv,hr _⟩
    · cases hd
  blkown := fun l b hb => by cases hb
  slown := fun id n b cap hb => by cases hb
  name := fun l _ _ => ⟨rfl,fun _ => rfl,fun b hb => by cases hb⟩
  dom := fun l _ => rfl
  le := ht
  block := fun _ _ => rfl
  pos := ⟨Nat.zero_lt_one,rfl⟩
  slblk := fun id n p hp => by cases hp
  ownk := fun b l hb => by cases hb
end
end Go.Abs
