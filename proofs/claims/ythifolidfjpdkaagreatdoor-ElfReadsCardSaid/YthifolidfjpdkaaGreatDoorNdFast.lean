/- The reckoner's code made quick: closures in the place of tables. -/
import Derived.Test.YthifolidfjpdkaaGreatDoorNdRun
import Derived.Test.YthifolidfjpdkaaGreatDoorNdLib
set_option linter.unusedVariables false
set_option linter.unusedSimpArgs false
namespace Go.Abs
noncomputable section
def act (t : Tr D) : AAct := ⟨t, [], none, false⟩
def gV (t : Tr D) : D := Tr.rec (motive := fun _ => D) ZT (fun _ v _ _ _ => Option.rec (motive := fun _ => D) ZT (fun d => d) v) t
def gL (k : Tr D → D) (t : Tr D) : D := Tr.rec (motive := fun _ => D) ZT (fun l _ _ _ _ => k l) t
def gR (k : Tr D → D) (t : Tr D) : D := Tr.rec (motive := fun _ => D) ZT (fun _ _ r _ _ => k r) t
def g0 (_ : Tr D) : D := ZT
def gF : Nat → Nat → Tr D → D
  | 0, _ => g0
  | f + 1, n => bif Nat.beq n 0 then gV else bif Nat.beq (n % 2) 1 then gL (gF f (n / 2)) else gR (gF f (n / 2 - 1))
def getD' (o : Option D) : D :=
  match o with
  | some d => d
  | none => ZT
theorem Zsk : ∀ (f n : Nat) (t : Tr D), n < f → gF f n t = getD' (t.get n)
  | 0, n, t, h => by omega
  | f + 1, n, t, h => by
    by_cases h0 : n = 0
    · subst h0
      cases t with
      | nil => rfl
      | node l v r => cases v <;> rfl
    · have hb : Nat.beq n 0 = false := by cases hb : Nat.beq n 0 with
        | false => rfl
        | true => exact absurd (Nat.eq_of_beq_eq_true hb) h0
      cases hm : Nat.beq (n % 2) 1 with
      | true =>
        simp only [gF, hb, hm, cond_true, cond_false]
        cases t with
        | nil => rfl
        | node l v r =>
          simp only [gL, Tr.get, hb, hm, cond_true, cond_false]
          exact Zsk f (n / 2) l (by omega)
      | false =>
        simp only [gF, hb, hm, cond_false]
        cases t with
        | nil => rfl
        | node l v r =>
          simp only [gR, Tr.get, hb, hm, cond_false]
          exact Zsk f (n / 2 - 1) r (by omega)
def kD (d : D) (_ : Tr D) : D := d
def fe : Opd → Tr D → D
  | .t n => gF (n + 1) n
  | .d d => kD d
theorem Ys (x : Opd) (t : Tr D) : fe x t = (act t).eval x := by
  cases x with
  | t n => exact Zsk (n + 1) n t (Nat.lt_succ_self n)
  | d d => rfl
def pV (v : D) (t : Tr D) : Tr D := Tr.rec (motive := fun _ => Tr D) (.node .nil (some v) .nil) (fun l _ r _ _ => .node l (some v) r) t
def pL (k : D → Tr D → Tr D) (v : D) (t : Tr D) : Tr D := Tr.rec (motive := fun _ => Tr D) (.node (k v .nil) none .nil) (fun l u r _ _ => .node (k v l) u r) t
def pR (k : D → Tr D → Tr D) (v : D) (t : Tr D) : Tr D := Tr.rec (motive := fun _ => Tr D) (.node .nil none (k v .nil)) (fun l u r _ _ => .node l u (k v r)) t
def p0 (_ : D) (t : Tr D) : Tr D := t
def pF : Nat → Nat → D → Tr D → Tr D
  | 0, _ => p0
  | f + 1, n => bif Nat.beq n 0 then pV else bif Nat.beq (n % 2) 1 then pL (pF f (n / 2)) else pR (pF f (n / 2 - 1))
theorem Zog : ∀ (f n : Nat) (v : D) (t : Tr D), pF f n v t = Tr.setF f t n (some v)
  | 0, n, v, t => by cases t <;> rfl
  | f + 1, n, v, t => by
    cases hb : Nat.beq n 0 with
    | true => simp only [pF, hb, cond_true]; cases t <;> simp only [pV, Tr.setF, hb, cond_true]
    | false => cases hm : Nat.beq (n % 2) 1 with
      | true =>
        simp only [pF, hb, hm, cond_true, cond_false]
        cases t <;> simp only [pL, Tr.setF, hb, hm, cond_true, cond_false, Zog f]
      | false =>
        simp only [pF, hb, hm, cond_false]
        cases t <;> simp only [pR, Tr.setF, hb, hm, cond_false, Zog f]
def Zeq : Option Nat → D → Tr D → Tr D
  | none => p0
  | some n => pF (n + 1) n
theorem Zdc (dst : Option Nat) (d : D) (t : Tr D) : act (Zeq dst d t) = (act t).put dst d := by
  cases dst with
  | none => rfl
  | some n => simp only [Zeq, AAct.put, act, Tr.set, Zog]
def Zkl (gs : List (Tr D → D)) (t : Tr D) : List D := List.rec (motive := fun _ => List D) [] (fun g _ ih => g t :: ih) gs
theorem Zqb (l : List Opd) (t : Tr D) : Zkl (l.map fe) t = (act t).evals l := by
  induction l with
  | nil => rfl
  | cons x r ih =>
    show fe x t :: Zkl (r.map fe) t = _
    rw [ih, Ys]; rfl
def Zqt (k : Tr AObj → Nat → Option AObj) (t : Tr AObj) (n : Nat) : Option AObj :=
  Tr.rec (motive := fun _ => (Tr AObj → Nat → Option AObj) → Nat → Option AObj) (fun _ _ => none)
    (fun l v r _ _ k n => Bool.rec (motive := fun _ => Tr AObj → Option AObj → Tr AObj → (Tr AObj → Nat → Option AObj) → Nat → Option AObj)
      (fun l _ r k n => Bool.rec (motive := fun _ => Tr AObj → Tr AObj → (Tr AObj → Nat → Option AObj) → Nat → Option AObj) (fun _ r k n => k r (Nat.sub (Nat.div n 2) 1)) (fun l _ k n => k l (Nat.div n 2)) (Nat.beq (Nat.mod n 2) 1) l r k n)
      (fun _ v _ _ _ => v) (Nat.beq n 0) l v r k n) t k n
theorem Uq {k : Tr AObj → Nat → Option AObj} (hk : ∀ t n, k t n = t.get n) (t : Tr AObj) (n : Nat) : Zqt k t n = t.get n := by
  cases t with
  | nil => rfl
  | node l v r =>
    have e : Nat.beq (n % 2) 1 = Nat.beq (Nat.mod n 2) 1 := rfl
    have e1 : k l (Nat.div n 2) = l.get (n / 2) := hk ..
    have e2 : k r (Nat.sub (Nat.div n 2) 1) = r.get (n / 2 - 1) := hk ..
    cases hb : Nat.beq n 0 with
    | true => simp only [Zqt, Tr.get, hb, cond_true]
    | false =>
      cases hm : Nat.beq (Nat.mod n 2) 1 with
      | true => simp only [Zqt, Tr.get, hb, hm, e, cond_true, cond_false, e1]
      | false => simp only [Zqt, Tr.get, hb, hm, e, cond_false, e2]
def hg0 : Tr AObj → Nat → Option AObj := Zqt Tr.get
def hg1 : Tr AObj → Nat → Option AObj := Zqt hg0
def hg2 : Tr AObj → Nat → Option AObj := Zqt hg1
def hg3 : Tr AObj → Nat → Option AObj := Zqt hg2
def hg4 : Tr AObj → Nat → Option AObj := Zqt hg3
def hg5 : Tr AObj → Nat → Option AObj := Zqt hg4
def hg6 : Tr AObj → Nat → Option AObj := Zqt hg5
def hg7 : Tr AObj → Nat → Option AObj := Zqt hg6
def hg8 : Tr AObj → Nat → Option AObj := Zqt hg7
def hg9 : Tr AObj → Nat → Option AObj := Zqt hg8
def hg10 : Tr AObj → Nat → Option AObj := Zqt hg9
def hg11 : Tr AObj → Nat → Option AObj := Zqt hg10
def hg12 : Tr AObj → Nat → Option AObj := Zqt hg11
def hget : Tr AObj → Nat → Option AObj := Zqt hg12
theorem Yg (t : Tr AObj) (n : Nat) : hget t n = t.get n :=
  Uq (Uq (Uq (Uq (Uq (Uq (Uq (Uq (Uq (Uq (Uq (Uq (Uq (Uq fun _ _ => rfl))))))))))))) t n
def Zor (k : Nat → Tr AObj → Nat → AObj → Tr AObj) (f : Nat) (t : Tr AObj) (n : Nat) (v : AObj) : Tr AObj :=
  Tr.rec (motive := fun _ => (Nat → Tr AObj → Nat → AObj → Tr AObj) → Nat → Nat → AObj → Tr AObj)
    (fun k f n v => Bool.rec (motive := fun _ => (Nat → Tr AObj → Nat → AObj → Tr AObj) → Nat → Nat → AObj → Tr AObj)
      (fun k f n v => Bool.rec (motive := fun _ => (Nat → Tr AObj → Nat → AObj → Tr AObj) → Nat → Nat → AObj → Tr AObj) (fun k f n v => .node .nil none (k (Nat.sub f 1) .nil (Nat.sub (Nat.div n 2) 1) v)) (fun k f n v => .node (k (Nat.sub f 1) .nil (Nat.div n 2) v) none .nil) (Nat.beq (Nat.mod n 2) 1) k f n v)
      (fun _ _ _ v => .node .nil (some v) .nil) (Nat.beq n 0) k f n v)
    (fun l u r _ _ k f n v => Bool.rec (motive := fun _ => Tr AObj → Option AObj → Tr AObj → (Nat → Tr AObj → Nat → AObj → Tr AObj) → Nat → Nat → AObj → Tr AObj)
      (fun l u r k f n v => Bool.rec (motive := fun _ => Tr AObj → Option AObj → Tr AObj → (Nat → Tr AObj → Nat → AObj → Tr AObj) → Nat → Nat → AObj → Tr AObj) (fun l u r k f n v => .node l u (k (Nat.sub f 1) r (Nat.sub (Nat.div n 2) 1) v)) (fun l u r k f n v => .node (k (Nat.sub f 1) l (Nat.div n 2) v) u r) (Nat.beq (Nat.mod n 2) 1) l u r k f n v)
      (fun l _ r _ _ _ v => .node l (some v) r) (Nat.beq n 0) l u r k f n v) t k f n v
def hpOk (k : Nat → Tr AObj → Nat → AObj → Tr AObj) : Prop := ∀ f t n v, n < f → k f t n v = Tr.setF f t n (some v)
theorem Up {k : Nat → Tr AObj → Nat → AObj → Tr AObj} (hk : hpOk k) : hpOk (Zor k) := by
  intro f t n v hn
  obtain ⟨f, rfl⟩ : ∃ m, f = m + 1 := ⟨f - 1, by omega⟩
  cases hb : Nat.beq n 0 with
  | true => cases t <;> simp only [Zor, Tr.setF, hb, cond_true]
  | false =>
    have h0 : n ≠ 0 := fun e => by subst e; cases hb
    have h1 : k f .nil (Nat.div n 2) v = Tr.setF f .nil (n / 2) (some v) := hk f .nil (n / 2) v (by omega)
    have h2 : k f .nil (Nat.sub (Nat.div n 2) 1) v = Tr.setF f .nil (n / 2 - 1) (some v) := hk f .nil (n / 2 - 1) v (by omega)
    have hf : Nat.sub (f + 1) 1 = f := rfl
    cases hm : Nat.beq (n % 2) 1 with
    | true =>
      have hm' : Nat.beq (Nat.mod n 2) 1 = true := hm
      cases t with
      | nil => simp only [Zor, Tr.setF, hb, hm, hm', cond_true, cond_false, hf, h1]
      | node l u r =>
        have h3 : k f l (Nat.div n 2) v = Tr.setF f l (n / 2) (some v) := hk f l (n / 2) v (by omega)
        simp only [Zor, Tr.setF, hb, hm, hm', cond_true, cond_false, hf, h3]
    | false =>
      have hm' : Nat.beq (Nat.mod n 2) 1 = false := hm
      cases t with
      | nil => simp only [Zor, Tr.setF, hb, hm, hm', cond_false, hf, h2]
      | node l u r =>
        have h3 : k f r (Nat.sub (Nat.div n 2) 1) v = Tr.setF f r (n / 2 - 1) (some v) := hk f r (n / 2 - 1) v (by omega)
        simp only [Zor, Tr.setF, hb, hm, hm', cond_false, hf, h3]
def hpE (f : Nat) (t : Tr AObj) (n : Nat) (v : AObj) : Tr AObj := Tr.setF f t n (some v)
def hp0 := Zor hpE
def hp1 := Zor hp0
def Zos := Zor hp1
def hp3 := Zor Zos
def hp4 := Zor hp3
def hp5 := Zor hp4
def hp6 := Zor hp5
def hp7 := Zor hp6
def hp8 := Zor hp7
def hp9 := Zor hp8
def hp10 := Zor hp9
def hp11 := Zor hp10
def hp12 := Zor hp11
def hset (t : Tr AObj) (n : Nat) (v : AObj) : Tr AObj := Zor hp12 (Nat.add n 1) t n v
theorem Zg1 (t : Tr AObj) (n : Nat) (v : AObj) : hset t n v = t.set n (some v) :=
  Up (Up (Up (Up (Up (Up (Up (Up (Up (Up (Up (Up (Up (Up (fun _ _ _ _ _ => rfl)))))))))))))) _ _ _ _ (Nat.lt_succ_self n)
def YX (h : H) (l : Nat) (o : AObj) : H := ⟨h.next, hset h.mem l o⟩
theorem VS (h : H) (l : Nat) (o : AObj) : YX h l o = h.put l o := by simp only [YX, H.put, Zg1]
def Ua (h : H) (o : AObj) : H := ⟨Nat.add h.next 1, hset h.mem h.next o⟩
theorem Ur (h : H) (o : AObj) : h.new o = (h.next, Ua h o) := by simp only [Ua, H.new, Zg1]
end
end Go.Abs
namespace Go.Abs
noncomputable section
section
variable {α β : Type}
def Uc (l : List α) (k : α → List α → β) (z : β) : β := List.rec (motive := fun _ => β) z (fun a r _ => k a r) l
def c8 (l : List α) (k : List α → β) (z : β) : β :=
  List.rec (motive := fun _ => β) z (fun _ r _ => List.rec (motive := fun _ => β) z (fun _ r _ => List.rec (motive := fun _ => β) z (fun _ r _ => List.rec (motive := fun _ => β) z (fun _ r _ =>
  List.rec (motive := fun _ => β) z (fun _ r _ => List.rec (motive := fun _ => β) z (fun _ r _ => List.rec (motive := fun _ => β) z (fun _ r _ => List.rec (motive := fun _ => β) z (fun _ r _ => k r) r) r) r) r) r) r) r) l
theorem c8_eq (l : List α) (k : List α → β) (z : β) : c8 l k z = if 8 ≤ l.length then k (l.drop 8) else z := by
  rcases l with _ | ⟨_, _ | ⟨_, _ | ⟨_, _ | ⟨_, _ | ⟨_, _ | ⟨_, _ | ⟨_, _ | ⟨_, l⟩⟩⟩⟩⟩⟩⟩⟩
  all_goals first
    | rfl
    | (show k l = _; rw [if_pos (by simp only [List.length_cons]; omega)]; rfl)
def Z0g (l : List α) : Nat → Nat := List.rec (motive := fun _ => Nat → Nat) (fun a => a) (fun _ _ ih a => ih (Nat.succ a)) l
theorem Zgc : ∀ (l : List α) (a : Nat), Z0g l a = a + l.length
  | [], a => rfl
  | _ :: r, a => (Zgc r (Nat.succ a)).trans (by simp only [List.length_cons]; omega)
def lnN (n : Nat) : List α → Nat → Nat := Nat.rec (motive := fun _ => List α → Nat → Nat) Z0g (fun _ ih l a => c8 l (fun r => ih r (Nat.add a 8)) (Z0g l a)) n
theorem Z0h : ∀ (n : Nat) (l : List α) (a : Nat), lnN n l a = a + l.length
  | 0, l, a => Zgc l a
  | n + 1, l, a => by
    show c8 l (fun r => lnN n r (Nat.add a 8)) (Z0g l a) = _
    rw [c8_eq, Zgc]
    split
    · rw [Z0h n]
      show (a + 8) + _ = _
      rw [List.length_drop]; omega
    · rfl
def Zqs (l : List α) : Nat := lnN 100000 l 0
theorem Zjt (l : List α) : Zqs l = l.length := by rw [Zqs, Z0h]; omega
def dpR (n : Nat) : List α → List α := Nat.rec (motive := fun _ => List α → List α) (fun l => l) (fun _ ih l => List.rec (motive := fun _ => List α) [] (fun _ r _ => ih r) l) n
theorem Zj2 : ∀ (n : Nat) (l : List α), dpR n l = l.drop n
  | 0, l => rfl
  | n + 1, [] => rfl
  | n + 1, _ :: r => Zj2 n r
def dp8 (n : Nat) : List α → List α := Nat.rec (motive := fun _ => List α → List α) (fun l => l) (fun _ ih l => c8 l ih []) n
theorem Z1a : ∀ (n : Nat) (l : List α), dp8 n l = l.drop (8 * n)
  | 0, l => rfl
  | n + 1, l => by
    show c8 l (dp8 n) [] = _
    rw [c8_eq]
    split
    · rw [Z1a n, List.drop_drop]; congr 1; omega
    · rw [List.drop_eq_nil_of_le (by omega)]
def Zxy (n : Nat) (l : List α) : List α := bif Nat.ble n 15 then dpR n l else dpR (Nat.mod n 8) (dp8 (Nat.div n 8) l)
theorem Zh2 (n : Nat) (l : List α) : Zxy n l = l.drop n := by
  unfold Zxy
  rw [Zj2, Zj2, Z1a, List.drop_drop]
  cases Nat.ble n 15 with
  | true => rfl
  | false =>
    show List.drop (8 * (n / 8) + n % 8) l = _
    congr 1; omega
def tkF (n : Nat) : List α → List α := Nat.rec (motive := fun _ => List α → List α) (fun _ => []) (fun _ ih l => List.rec (motive := fun _ => List α) [] (fun a r _ => a :: ih r) l) n
theorem Zyj : ∀ (n : Nat) (l : List α), tkF n l = l.take n
  | 0, l => rfl
  | n + 1, [] => rfl
  | n + 1, a :: r => congrArg (a :: ·) (Zyj n r)
def apF (l m : List α) : List α := List.rec (motive := fun _ => List α) m (fun a _ ih => a :: ih) l
theorem Zng : ∀ (l m : List α), apF l m = l ++ m
  | [], m => rfl
  | a :: r, m => congrArg (a :: ·) (Zng r m)
def Z1z (n : Nat) : List α → Option (List α) := Nat.rec (motive := fun _ => List α → Option (List α)) (fun _ => some []) (fun _ ih l => List.rec (motive := fun _ => Option (List α)) none (fun a r _ => Option.rec (motive := fun _ => Option (List α)) none (fun s => some (a :: s)) (ih r)) l) n
theorem Zh0 : ∀ (n : Nat) (l : List α), Z1z n l = bif Nat.beq (l.take n).length n then some (l.take n) else none
  | 0, l => rfl
  | n + 1, [] => rfl
  | n + 1, a :: r => by
    show Option.rec (motive := fun _ => Option (List α)) none (fun s => some (a :: s)) (Z1z n r) = _
    rw [Zh0 n r]
    show _ = bif Nat.beq (r.take n).length n then some (a :: r.take n) else none
    cases Nat.beq (r.take n).length n <;> rfl
def ovF (xs : List α) : List α → Option (List α) := List.rec (motive := fun _ => List α → Option (List α)) (fun cs => some cs) (fun x _ ih cs => List.rec (motive := fun _ => Option (List α)) none (fun _ r _ => Option.rec (motive := fun _ => Option (List α)) none (fun s => some (x :: s)) (ih r)) cs) xs
theorem Zzy : ∀ (xs cs : List α), ovF xs cs = bif Nat.ble xs.length cs.length then some (xs ++ cs.drop xs.length) else none
  | [], cs => by
    have : Nat.ble ([] : List α).length cs.length = true := by rw [Nat.ble_eq]; exact Nat.zero_le _
    rw [this]; rfl
  | x :: xs, [] => rfl
  | x :: xs, c :: cs => by
    show Option.rec (motive := fun _ => Option (List α)) none (fun s => some (x :: s)) (ovF xs cs) = _
    rw [Zzy xs cs]
    show _ = bif Nat.ble xs.length cs.length then some (x :: (xs ++ cs.drop xs.length)) else none
    cases Nat.ble xs.length cs.length <;> rfl
def paF (off : Nat) : List α → List α → Option (List α) := Nat.rec (motive := fun _ => List α → List α → Option (List α)) (fun xs cs => ovF xs cs) (fun _ ih xs cs => List.rec (motive := fun _ => Option (List α)) none (fun c r _ => Option.rec (motive := fun _ => Option (List α)) none (fun s => some (c :: s)) (ih xs r)) cs) off
end
theorem Zps : ∀ (off : Nat) (xs cs : List D), paF off xs cs = patch cs off xs
  | 0, xs, cs => by
    show ovF xs cs = _
    rw [Zzy, patch]
    simp only [Nat.zero_add, List.take_zero, List.nil_append]
  | off + 1, xs, [] => by
    show none = _
    rw [patch, show Nat.ble (off + 1 + xs.length) ([] : List D).length = false from by
      cases h : Nat.ble (off + 1 + xs.length) ([] : List D).length with
      | false => rfl
      | true => have := Nat.le_of_ble_eq_true h; simp only [List.length_nil] at this; omega]
    rfl
  | off + 1, xs, c :: cs => by
    show Option.rec (motive := fun _ => Option (List D)) none (fun s => some (c :: s)) (paF off xs cs) = _
    rw [Zps off xs cs, patch, patch]
    rw [show off + 1 + xs.length = (off + xs.length) + 1 by omega]
    show _ = bif Nat.ble (off + xs.length) cs.length then some ((c :: cs.take off ++ xs) ++ cs.drop (off + xs.length)) else none
    cases Nat.ble (off + xs.length) cs.length <;> rfl
def oneV (x : Value) : Bool := Value.rec (motive_1 := fun _ => Bool) (motive_2 := fun _ => Unit) (motive_3 := fun _ => Unit) (fun _ => true) (fun _ _ => true) (fun _ _ => true) (fun _ _ _ => true) (fun _ => true) (fun _ => true) (fun _ _ _ => true) (fun _ => true) (fun _ => true) (fun _ _ _ _ _ => true) true (fun _ _ _ => true) true (fun _ _ => false) (fun _ _ => false) (fun _ _ => ()) () (fun _ _ _ _ => ()) x
def oneQ (d : D) : Bool := D.rec (motive_1 := fun _ => Bool) (motive_2 := fun _ => Unit) (fun x => oneV x) (fun _ _ => true) (fun _ => true) (fun _ _ => true) (fun _ _ => true) (fun _ _ _ _ => true) (fun _ _ _ _ => true) (fun _ => true) (fun _ _ => false) (fun _ _ => false) (fun _ _ _ _ _ => true) (fun _ _ _ => true) () (fun _ _ _ _ => ()) d
theorem Z22 (d : D) : oneQ d = d.one := by
  cases d <;> try rfl
  rename_i x
  cases x <;> rfl
def cellsV (x : Value) : List D := Value.rec (motive_1 := fun _ => List D) (motive_2 := fun _ => Unit) (motive_3 := fun _ => Unit) (fun b => [.v (.bool b)]) (fun k n => [.v (.int k n)]) (fun k n => [.v (.float k n)]) (fun k a b => [.v (.complex k a b)]) (fun s => [.v (.string s)]) (fun a => [.v (.pointer a)]) (fun a l c => [.v (.slice a l c)]) (fun r => [.v (.map r)]) (fun r => [.v (.chan r)]) (fun f a b _ _ => [.v (.func f a b)]) [.v .nilFunc] (fun t v _ => [.v (.iface t v)]) [.v .nilIface] (fun cs _ => cs.toList.map .v) (fun l _ => [.v (.tuple l)]) (fun _ _ => ()) () (fun _ _ _ _ => ()) x
def Zj4 (d : D) : List D := D.rec (motive_1 := fun _ => List D) (motive_2 := fun _ => Unit) (fun x => cellsV x) (fun k n => [.int k n]) (fun l => [.str l]) (fun l o => [.ptr l o]) (fun c _ => [.ep c]) (fun i n c _ => [.sl i n c]) (fun l o n c => [.row l o n c]) (fun l => [.map l]) (fun c _ => c) (fun c _ => [.tup c]) (fun f a b _ _ => [.func f a b]) (fun t d _ => [.iface t d]) () (fun _ _ _ _ => ()) d
theorem Zci (d : D) : Zj4 d = d.cells := by
  cases d <;> try rfl
  rename_i x
  cases x <;> rfl
def Z23 (l : List D) : Bool := List.rec (motive := fun _ => Bool) true (fun d _ ih => Bool.rec (motive := fun _ => Bool) false ih (oneQ d)) l
theorem Zk6 : ∀ l : List D, Z23 l = Y8 l
  | [] => rfl
  | d :: r => by
    show Bool.rec (motive := fun _ => Bool) false (Z23 r) (oneQ d) = (d.one && Y8 r)
    rw [Zk6 r, Z22]
    cases d.one <;> rfl
def eqF (a : List Nat) : List Nat → Bool := List.rec (motive := fun _ => List Nat → Bool) (fun b => List.rec (motive := fun _ => Bool) true (fun _ _ _ => false) b) (fun x _ ih b => List.rec (motive := fun _ => Bool) false (fun y s _ => bif Nat.beq x y then ih s else false) b) a
theorem Zqd : ∀ a b : List Nat, eqF a b = U5 a b
  | [], [] => rfl
  | [], _ :: _ => rfl
  | _ :: _, [] => rfl
  | x :: a, y :: b => by
    show (bif Nat.beq x y then eqF a b else false) = (Nat.beq x y && U5 a b)
    rw [Zqd a b]
    cases Nat.beq x y <;> rfl
def Zxf (i : Nat) (l : List Nat) : Bool := List.rec (motive := fun _ => Bool) false (fun x _ ih => bif Nat.beq x i then true else ih) l
inductive XT where
  | out (e : AExit) (t : Tr D) (h : H)
  | panic (d : D) (h : H)
  | fail (why : String)
def dInt (d : D) : (IntKind → Int → O D) → O D → O D := D.rec (motive_1 := fun _ => (IntKind → Int → O D) → O D → O D) (motive_2 := fun _ => Unit) (fun _ _ z => z) (fun a0 a1 k0 _ => k0 a0 a1) (fun _ _ z => z) (fun _ _ _ z => z) (fun _ _ _ z => z) (fun _ _ _ _ _ z => z) (fun _ _ _ _ _ z => z) (fun _ _ z => z) (fun _ _ _ z => z) (fun _ _ _ z => z) (fun _ _ _ _ _ _ z => z) (fun _ _ _ _ z => z) () (fun _ _ _ _ => ()) d
def dStr (d : D) : (List Nat → O D) → O D → O D := D.rec (motive_1 := fun _ => (List Nat → O D) → O D → O D) (motive_2 := fun _ => Unit) (fun _ _ z => z) (fun _ _ _ z => z) (fun a0 k0 _ => k0 a0) (fun _ _ _ z => z) (fun _ _ _ z => z) (fun _ _ _ _ _ z => z) (fun _ _ _ _ _ z => z) (fun _ _ z => z) (fun _ _ _ z => z) (fun _ _ _ z => z) (fun _ _ _ _ _ _ z => z) (fun _ _ _ _ z => z) () (fun _ _ _ _ => ()) d
def dPE (d : D) : (Nat → Nat → O D) → (List D → O D) → O D → O D := D.rec (motive_1 := fun _ => (Nat → Nat → O D) → (List D → O D) → O D → O D) (motive_2 := fun _ => Unit) (fun _ _ _ z => z) (fun _ _ _ _ z => z) (fun _ _ _ z => z) (fun a0 a1 k0 _ _ => k0 a0 a1) (fun a0 _ _ k1 _ => k1 a0) (fun _ _ _ _ _ _ z => z) (fun _ _ _ _ _ _ z => z) (fun _ _ _ z => z) (fun _ _ _ _ z => z) (fun _ _ _ _ z => z) (fun _ _ _ _ _ _ _ z => z) (fun _ _ _ _ _ z => z) () (fun _ _ _ _ => ()) d
def dPtr (d : D) : (Nat → Nat → O D) → O D → O D := D.rec (motive_1 := fun _ => (Nat → Nat → O D) → O D → O D) (motive_2 := fun _ => Unit) (fun _ _ z => z) (fun _ _ _ z => z) (fun _ _ z => z) (fun a0 a1 k0 _ => k0 a0 a1) (fun _ _ _ z => z) (fun _ _ _ _ _ z => z) (fun _ _ _ _ _ z => z) (fun _ _ z => z) (fun _ _ _ z => z) (fun _ _ _ z => z) (fun _ _ _ _ _ _ z => z) (fun _ _ _ _ z => z) () (fun _ _ _ _ => ()) d
def dAgg (d : D) : (List D → O D) → O D → O D := D.rec (motive_1 := fun _ => (List D → O D) → O D → O D) (motive_2 := fun _ => Unit) (fun _ _ z => z) (fun _ _ _ z => z) (fun _ _ z => z) (fun _ _ _ z => z) (fun _ _ _ z => z) (fun _ _ _ _ _ z => z) (fun _ _ _ _ _ z => z) (fun _ _ z => z) (fun a0 _ k0 _ => k0 a0) (fun _ _ _ z => z) (fun _ _ _ _ _ _ z => z) (fun _ _ _ _ z => z) () (fun _ _ _ _ => ()) d
def dTup (d : D) : (List D → O D) → O D → O D := D.rec (motive_1 := fun _ => (List D → O D) → O D → O D) (motive_2 := fun _ => Unit) (fun _ _ z => z) (fun _ _ _ z => z) (fun _ _ z => z) (fun _ _ _ z => z) (fun _ _ _ z => z) (fun _ _ _ _ _ z => z) (fun _ _ _ _ _ z => z) (fun _ _ z => z) (fun _ _ _ z => z) (fun a0 _ k0 _ => k0 a0) (fun _ _ _ _ _ _ z => z) (fun _ _ _ _ z => z) () (fun _ _ _ _ => ()) d
def dSl (d : D) : (Nat → Nat → List D → O D) → O D → O D := D.rec (motive_1 := fun _ => (Nat → Nat → List D → O D) → O D → O D) (motive_2 := fun _ => Unit) (fun _ _ z => z) (fun _ _ _ z => z) (fun _ _ z => z) (fun _ _ _ z => z) (fun _ _ _ z => z) (fun a0 a1 a2 _ k0 _ => k0 a0 a1 a2) (fun _ _ _ _ _ z => z) (fun _ _ z => z) (fun _ _ _ z => z) (fun _ _ _ z => z) (fun _ _ _ _ _ _ z => z) (fun _ _ _ _ z => z) () (fun _ _ _ _ => ()) d
def dIS (d : D) : (IntKind → Int → O D) → (List Nat → O D) → O D → O D := D.rec (motive_1 := fun _ => (IntKind → Int → O D) → (List Nat → O D) → O D → O D) (motive_2 := fun _ => Unit) (fun _ _ _ z => z) (fun a0 a1 k0 _ _ => k0 a0 a1) (fun a0 _ k1 _ => k1 a0) (fun _ _ _ _ z => z) (fun _ _ _ _ z => z) (fun _ _ _ _ _ _ z => z) (fun _ _ _ _ _ _ z => z) (fun _ _ _ z => z) (fun _ _ _ _ z => z) (fun _ _ _ _ z => z) (fun _ _ _ _ _ _ _ z => z) (fun _ _ _ _ _ z => z) () (fun _ _ _ _ => ()) d
def dBV (v : Value) : (Bool → O D) → O D → O D := Value.rec (motive_1 := fun _ => (Bool → O D) → O D → O D) (motive_2 := fun _ => Unit) (motive_3 := fun _ => Unit) (fun b k _ => k b) (fun _ _ _ z => z) (fun _ _ _ z => z) (fun _ _ _ _ z => z) (fun _ _ z => z) (fun _ _ z => z) (fun _ _ _ _ z => z) (fun _ _ z => z) (fun _ _ z => z) (fun _ _ _ _ _ _ z => z) (fun _ z => z) (fun _ _ _ _ z => z) (fun _ z => z) (fun _ _ _ z => z) (fun _ _ _ z => z) (fun _ _ => ()) () (fun _ _ _ _ => ()) v
def dB (d : D) : (Bool → O D) → O D → O D := D.rec (motive_1 := fun _ => (Bool → O D) → O D → O D) (motive_2 := fun _ => Unit) (fun v => dBV v) (fun _ _ _ z => z) (fun _ _ z => z) (fun _ _ _ z => z) (fun _ _ _ z => z) (fun _ _ _ _ _ z => z) (fun _ _ _ _ _ z => z) (fun _ _ z => z) (fun _ _ _ z => z) (fun _ _ _ z => z) (fun _ _ _ _ _ _ z => z) (fun _ _ _ _ z => z) () (fun _ _ _ _ => ()) d
def dBXV (v : Value) : (Bool → XT) → XT → XT := Value.rec (motive_1 := fun _ => (Bool → XT) → XT → XT) (motive_2 := fun _ => Unit) (motive_3 := fun _ => Unit) (fun b k _ => k b) (fun _ _ _ z => z) (fun _ _ _ z => z) (fun _ _ _ _ z => z) (fun _ _ z => z) (fun _ _ z => z) (fun _ _ _ _ z => z) (fun _ _ z => z) (fun _ _ z => z) (fun _ _ _ _ _ _ z => z) (fun _ z => z) (fun _ _ _ _ z => z) (fun _ z => z) (fun _ _ _ z => z) (fun _ _ _ z => z) (fun _ _ => ()) () (fun _ _ _ _ => ()) v
def dBX (d : D) : (Bool → XT) → XT → XT := D.rec (motive_1 := fun _ => (Bool → XT) → XT → XT) (motive_2 := fun _ => Unit) (fun v => dBXV v) (fun _ _ _ z => z) (fun _ _ z => z) (fun _ _ _ z => z) (fun _ _ _ z => z) (fun _ _ _ _ _ z => z) (fun _ _ _ _ _ z => z) (fun _ _ z => z) (fun _ _ _ z => z) (fun _ _ _ z => z) (fun _ _ _ _ _ _ z => z) (fun _ _ _ _ z => z) () (fun _ _ _ _ => ()) d
def dBbV (v : Value) : (Bool → Bool) → Bool → Bool := Value.rec (motive_1 := fun _ => (Bool → Bool) → Bool → Bool) (motive_2 := fun _ => Unit) (motive_3 := fun _ => Unit) (fun b k _ => k b) (fun _ _ _ z => z) (fun _ _ _ z => z) (fun _ _ _ _ z => z) (fun _ _ z => z) (fun _ _ z => z) (fun _ _ _ _ z => z) (fun _ _ z => z) (fun _ _ z => z) (fun _ _ _ _ _ _ z => z) (fun _ z => z) (fun _ _ _ _ z => z) (fun _ z => z) (fun _ _ _ z => z) (fun _ _ _ z => z) (fun _ _ => ()) () (fun _ _ _ _ => ()) v
def dBb (d : D) : (Bool → Bool) → Bool → Bool := D.rec (motive_1 := fun _ => (Bool → Bool) → Bool → Bool) (motive_2 := fun _ => Unit) (fun v => dBbV v) (fun _ _ _ z => z) (fun _ _ z => z) (fun _ _ _ z => z) (fun _ _ _ z => z) (fun _ _ _ _ _ z => z) (fun _ _ _ _ _ z => z) (fun _ _ z => z) (fun _ _ _ z => z) (fun _ _ _ z => z) (fun _ _ _ _ _ _ z => z) (fun _ _ _ _ z => z) () (fun _ _ _ _ => ()) d
def Zhs (o : Option AObj) : (TypeId → List D → O D) → O D → O D := Option.rec (motive := fun _ => (TypeId → List D → O D) → O D → O D) (fun _ z => z) (fun x => AObj.rec (motive := fun _ => (TypeId → List D → O D) → O D → O D) (fun ty cs k _ => k ty cs) (fun _ _ z => z) (fun _ _ _ z => z) x) o
def oNat (i : Int) : (Nat → O D) → O D → O D := Int.rec (motive := fun _ => (Nat → O D) → O D → O D) (fun n k _ => k n) (fun _ _ z => z) i
def oDs (o : Option (List D)) (k : List D → O D) (z : O D) : O D := Option.rec (motive := fun _ => O D) z k o
def Zvp (a : AAct) (x : Opd) : D := Opd.rec (motive := fun _ => D) (fun n => a.eval (.t n)) (fun d => d) x
theorem Zcr (a : AAct) (x : Opd) : Zvp a x = a.eval x := by cases x <;> rfl
def Zw6 (h : H) (a : D) (n : Nat) : Option (List D) :=
  match a with
  | .ptr l off => match hget h.mem l with
    | some (.cells _ cs) => Z1z n (Zxy off cs)
    | _ => none
  | .ep cs => Z1z n cs
  | _ => none
theorem Zbt (h : H) (a : D) (n : Nat) : Zw6 h a n = Zi h a n := by
  unfold Zw6 Zi
  cases a <;> try rfl
  · rename_i l off
    simp only [Yg]
    cases h.mem.get l with
    | none => rfl
    | some o => cases o with
      | cells ty cs => simp only [Zh0, Zh2]
      | _ => rfl
  · simp only [Zh0]
def slF (h : H) (size : Nat) (d : D) : Option (Nat × List D) :=
  match d with
  | .sl _ n cs => bif Nat.beq (Zqs cs) (n * size) then some (n, cs) else none
  | .row l off len _ => match Zw6 h (.ptr l off) (len * size) with
    | some cs => some (len, cs)
    | none => none
  | d => ZK h size d
theorem Zyq (h : H) (size : Nat) (d : D) : slF h size d = ZK h size d := by
  unfold slF
  cases d <;> simp only [Zjt, Zbt, ZK] <;> rfl
def Ym (size : Nat) (x : Opd) (i : Opd) (E : Env) (call : Call) (a : AAct) (h : H) : O D :=
  dSl (Zvp a x) (fun id n cs => dInt (Zvp a i) (fun _ m => oNat m (fun j => Bool.rec (motive := fun _ => O D) (.fail "index: slice") (Uc (Zxy (Nat.mul j size) cs) (fun c r => .ok (.ep (c :: r)) h) (.fail "index: slice")) (Nat.blt j n)) (.fail "index: slice")) (.fail "index: slice")) (Uy (Zcv size (Zvp a x) (Zvp a i)) h "index: slice")
theorem Zl4 : @Ym = @Zdm := by
  funext size x i E call a h
  unfold Ym Zdm
  rw [Zcr, Zcr]
  cases a.eval x <;> try rfl
  rename_i id n cs
  cases a.eval i <;> try rfl
  rename_i k m
  cases m <;> try rfl
  rename_i j
  show (Bool.rec (motive := fun _ => O D) (.fail "index: slice") (Uc (Zxy (Nat.mul j size) cs) (fun c r => .ok (.ep (c :: r)) h) (.fail "index: slice")) (Nat.blt j n)) = _
  simp only [Zcv, VF, Zh2]
  show _ = Uy (match bif Nat.blt j n then some j else none with
    | some i => match cs.drop (i * size) with
      | [] => none
      | c :: r => some (.ep (c :: r))
    | none => none) h "index: slice"
  cases Nat.blt j n with
  | false => rfl
  | true =>
    show Uc (cs.drop (j * size)) _ _ = _
    simp only [cond_true]
    cases cs.drop (j * size) <;> rfl
def Zhm (x : Opd) (i : Opd) (E : Env) (call : Call) (a : AAct) (h : H) : O D :=
  dStr (Zvp a x) (fun s => dInt (Zvp a i) (fun _ m => oNat m (fun i => Uc (Zxy i s) (fun b _ => .ok (.int .u8 (.ofNat b)) h) (.fail "index: string")) (.fail "index: string")) (.fail "index: string")) (.fail "index: string")
theorem Zjg : @Zhm = @Uj := by
  funext x i E call a h
  unfold Zhm Uj
  rw [Zcr, Zcr]
  generalize a.eval x = X
  generalize a.eval i = I
  cases X <;> try rfl
  rename_i s
  cases I <;> try rfl
  rename_i k n
  cases n <;> try rfl
  rename_i n
  show Uc (Zxy n s) _ _ = _
  simp only [Zh2]
  cases s.drop n <;> rfl
def WD (x : Opd) (E : Env) (call : Call) (a : AAct) (h : H) : O D :=
  dStr (Zvp a x) (fun l => .ok (.int .i64 (.ofNat (Zqs l))) h) (.fail "len")
theorem Zjf : @WD = @Zbg := by
  funext x E call a h
  unfold WD Zbg
  rw [Zcr]
  cases a.eval x <;> try rfl
  rename_i l
  show O.ok (D.int .i64 (.ofNat (Zqs l))) h = _
  rw [Zjt]
def Zvm (ag : Bool) (n : Nat) (cs : List D) (off : Nat) (h : H) (why : String) : O D :=
  Bool.rec (motive := fun _ => O D) (Uc (Zxy off cs) (fun d _ => .ok d h) (.fail why)) (oDs (Z1z n (Zxy off cs)) (fun r => .ok (.agg r) h) (.fail why)) ag
theorem Zrt (ag : Bool) (n : Nat) (cs : List D) (off : Nat) (h : H) (why : String) : Zvm ag n cs off h why = Uy (Zib ag n cs off) h why := by
  unfold Zvm Zib
  rw [Zh0, Zh2]
  cases ag with
  | true => simp only [cond_true]; cases Nat.beq ((cs.drop off).take n).length n <;> rfl
  | false => simp only [cond_false]; cases cs.drop off <;> rfl
def Zl7 (ag : Bool) (off : Nat) (n : Nat) (x : Opd) (E : Env) (call : Call) (a : AAct) (h : H) : O D :=
  dAgg (Zvp a x) (fun cs => Zvm ag n cs off h "field") (.fail "field")
theorem Zl6 : @Zl7 = @Zcq := by
  funext ag off n x E call a h
  unfold Zl7 Zcq
  rw [Zcr]
  cases a.eval x <;> try rfl
  exact Zrt ..
def Zl5 (ag : Bool) (n : Nat) (size : Nat) (x : Opd) (i : Opd) (E : Env) (call : Call) (a : AAct) (h : H) : O D :=
  match a.eval x, VF (a.eval i) n with
    | .agg cs, some i => Zvm ag size cs (i * size) h "index: value"
    | _, _ => .fail "index: value"
theorem Zjh : @Zl5 = @Uk := by
  funext ag n size x i E call a h
  unfold Zl5 Uk
  simp only [Zrt]
  rfl
def ZL (off : Nat) (x : Opd) (E : Env) (call : Call) (a : AAct) (h : H) : O D :=
  dPE (Zvp a x) (fun l o => .ok (.ptr l (Nat.add o off)) h) (fun cs => .ok (.ep (Zxy off cs)) h) (.fail "fieldAddr")
theorem Zpo : @ZL = @Zhc := by
  funext off x E call a h
  unfold ZL Zhc
  rw [Zcr]
  cases a.eval x <;> try rfl
  rename_i cs
  show O.ok (D.ep (Zxy off cs)) h = _
  rw [Zh2]
def Zzn (n : Nat) (size : Nat) (x : Opd) (i : Opd) (E : Env) (call : Call) (a : AAct) (h : H) : O D :=
  match a.eval x with
  | .ep cs => (match VF (a.eval i) n with
    | some i => .ok (.ep (Zxy (i * size) cs)) h
    | none => .fail "index: array")
  | d => Uy (Zg0 n size d (a.eval i)) h "index: array"
theorem Zrq : @Zzn = @Zdn := by
  funext n size x i E call a h
  unfold Zzn Zdn
  cases a.eval x <;> try rfl
  simp only [Zg0, Zh2]
  cases VF (a.eval i) n <;> rfl
def Zc9 (i : Nat) (x : Opd) (E : Env) (call : Call) (a : AAct) (h : H) : O D :=
  dTup (Zvp a x) (fun ds => Uc (dpR i ds) (fun d _ => .ok d h) (.fail "extract")) (.fail "extract")
theorem Zl8 : @Zc9 = @Zdo := by
  funext i x E call a h
  unfold Zc9 Zdo
  rw [Zcr]
  cases a.eval x <;> try rfl
  rename_i ds
  show Uc (dpR i ds) _ _ = Uy (ds[i]?) h "extract"
  rw [Zj2]
  have : ds[i]? = (ds.drop i)[0]? := by rw [List.getElem?_drop]; rfl
  rw [this]
  cases ds.drop i <;> rfl
def Zl2 (e : TypeId) (x : Opd) (E : Env) (call : Call) (a : AAct) (h : H) : O D :=
  match a.eval x with
    | .str l => .ok (.sl 0 (Zqs l) (List.rec (motive := fun _ => List D) [] (fun b _ ih => .int .u8 (.ofNat b) :: ih) l)) h
    | _ => .fail "s2b"
theorem Zj5 : ∀ l : List Nat, (List.rec (motive := fun _ => List D) [] (fun b _ ih => .int .u8 (.ofNat b) :: ih) l : List D) = Yq l
  | [] => rfl
  | b :: r => congrArg (.int .u8 (.ofNat b) :: ·) (Zj5 r)
theorem Zl1 : @Zl2 = @Zco := by
  funext e x E call a h
  unfold Zl2 Zco
  simp only [Zjt, Zj5]
  rfl
def byF (cs : List D) : Option (List Nat) := List.rec (motive := fun _ => Option (List Nat)) (some []) (fun d _ ih => match d with
  | .int .u8 (.ofNat n) => Option.rec (motive := fun _ => Option (List Nat)) none (fun l => bif Nat.blt n 256 then some (n :: l) else none) ih
  | _ => none) cs
theorem Z1j : ∀ cs : List D, byF cs = W2 cs
  | [] => rfl
  | d :: r => by
    unfold W2
    split
    · rename_i he; cases he
    · rename_i n s he
      cases he
      show Option.rec (motive := fun _ => Option (List Nat)) none (fun l => bif Nat.blt n 256 then some (n :: l) else none) (byF r) = _
      rw [Z1j r]
      cases W2 r <;> rfl
    · rename_i x s hx he
      cases he
      show (match d with
        | .int .u8 (.ofNat n) => Option.rec (motive := fun _ => Option (List Nat)) none (fun l => bif Nat.blt n 256 then some (n :: l) else none) (byF r)
        | _ => none) = _
      split
      · rename_i n; exact absurd rfl (hx n)
      · rfl
def Zkf (x : Opd) (E : Env) (call : Call) (a : AAct) (h : H) : O D :=
  match slF h 1 (a.eval x) with
    | some (_, cs) => match byF cs with
      | some l => .ok (.str l) h
      | none => .fail "b2s"
    | none => .fail "b2s"
theorem Zma : @Zkf = @Zbu := by
  funext x E call a h
  unfold Zkf Zbu
  simp only [Zyq, Z1j]
  rfl
def apnF (h : H) (e : TypeId) (size bytes : Nat) (s x : D) : O D :=
  match slF h size x with
  | some (m, ys) =>
    bif Nat.beq m 0 then (match s with
      | .v (.slice none 0 0) | .sl _ _ _ => .ok s h
      | _ => .fail "append: nothing") else
    bif Z23 ys && Nat.beq (Zqs ys) (m * size) && !Nat.beq size 0 then
    match s with
    | .v (.slice none 0 0) =>
      bif Nat.ble (m * bytes) 140737488355328 && Nat.ble m 140737488355328 then
      .ok (.sl h.next m ys) (Ua h (.tip m e))
      else .fail "append: size"
    | .sl id n cs => match hget h.mem id with
      | some (.tip k u) => bif Nat.beq k n && Nat.beq u e && Nat.beq (Zqs cs) (n * size) && Nat.ble ((n + m) * bytes) 140737488355328 && Nat.ble (n + m) 140737488355328 then .ok (.sl id (n + m) (apF cs ys)) (YX h id (.tip (n + m) e)) else .fail "append: not the tip"
      | _ => .fail "append: no tip"
    | _ => .fail "append: no slice"
    else .fail "append: cells"
  | none => .fail "append: what?"
theorem apnF_eq (h : H) (e : TypeId) (size bytes : Nat) (s x : D) : apnF h e size bytes s x = W4 h e size bytes s x := by
  unfold apnF W4
  simp only [Zyq, Zk6, Zjt, Yg, VS, Ur, Zng]
  rfl
def Zbl (e : TypeId) (size : Nat) (bytes : Nat) (s : Opd) (x : Opd) (E : Env) (call : Call) (a : AAct) (h : H) : O D :=
  apnF h e size bytes (a.eval s) (a.eval x)
theorem Zmc : @Zbl = @Ze6 := by
  funext e size bytes s x E call a h
  unfold Zbl Ze6
  exact apnF_eq ..
def apsF (h : H) (e : TypeId) (s x : D) : O D :=
  match x with
  | .str bs =>
    bif Nat.beq (Zqs bs) 0 then (match s with
      | .v (.slice none 0 0) | .sl _ _ _ => .ok s h
      | _ => .fail "append: nothing") else
    match s with
    | .v (.slice none 0 0) =>
      bif Nat.ble (Zqs bs) 140737488355328 then
      .ok (.sl h.next (Zqs bs) (List.rec (motive := fun _ => List D) [] (fun b _ ih => .int .u8 (.ofNat b) :: ih) bs)) (Ua h (.tip (Zqs bs) e))
      else .fail "append: size"
    | .sl id n cs => match hget h.mem id with
      | some (.tip k u) => bif Nat.beq k n && Nat.beq u e && Nat.beq (Zqs cs) n && Nat.ble (n + Zqs bs) 140737488355328 then .ok (.sl id (n + Zqs bs) (apF cs (List.rec (motive := fun _ => List D) [] (fun b _ ih => .int .u8 (.ofNat b) :: ih) bs))) (YX h id (.tip (n + Zqs bs) e)) else .fail "append: not the tip"
      | _ => .fail "append: no tip"
    | _ => .fail "append: no slice"
  | _ => .fail "append: what?"
theorem apsF_eq (h : H) (e : TypeId) (s x : D) : apsF h e s x = VV h e s x := by
  unfold apsF VV
  simp only [Zjt, Zj5, Yg, VS, Ur, Zng]
  rfl
def Zmb (e : TypeId) (s : Opd) (x : Opd) (E : Env) (call : Call) (a : AAct) (h : H) : O D :=
  apsF h e (a.eval s) (a.eval x)
theorem Zjj : @Zmb = @Zb9 := by
  funext e s x E call a h
  unfold Zmb Zb9
  exact apsF_eq ..
def keF (a b : D) : Option Bool :=
  match a, b with
  | .str a, .str b => some (eqF a b)
  | a, b => XO a b
theorem Z0o (a b : D) : keF a b = XO a b := by
  unfold keF
  split
  · rw [Zqd]; rfl
  · rfl
def finF (k : D) (es : List (D × D)) : Option (Option D) := List.rec (motive := fun _ => Option (Option D)) (some none) (fun e _ ih => match keF k e.1 with
    | some true => some (some e.2)
    | some false => ih
    | none => none) es
theorem Zv9 (k : D) : ∀ es : List (D × D), finF k es = X0 k es
  | [] => rfl
  | (q, d) :: r => by
    show (match keF k q with
      | some true => some (some d)
      | some false => finF k r
      | none => none) = _
    rw [Zv9 k r, X0, Z0o]
    rfl
def semF (k d : D) (es : List (D × D)) : Option (List (D × D)) := List.rec (motive := fun _ => Option (List (D × D))) (some [(k, d)]) (fun e r ih => match keF k e.1 with
    | some true => some ((e.1, d) :: r)
    | some false => Option.rec (motive := fun _ => Option (List (D × D))) none (fun s => some (e :: s)) ih
    | none => none) es
theorem Zu8 (k d : D) : ∀ es : List (D × D), semF k d es = VJ k d es
  | [] => rfl
  | (q, e) :: r => by
    show (match keF k q with
      | some true => some ((q, d) :: r)
      | some false => Option.rec (motive := fun _ => Option (List (D × D))) none (fun s => some ((q, e) :: s)) (semF k d r)
      | none => none) = _
    rw [Zu8 k d r, VJ, Z0o]
    cases XO k q with
    | none => rfl
    | some b => cases b with
      | true => rfl
      | false => cases VJ k d r <;> rfl
def mpF (h : H) (d : D) : Option (List (D × D)) :=
  match d with
  | .v (.map none) => some []
  | .map l => match hget h.mem l with
    | some (.map es) => some es
    | _ => none
  | _ => none
theorem mpF_eq (h : H) (d : D) : mpF h d = (match d with
        | .v (.map none) => some []
        | .map l => match h.mem.get l with
          | some (.map es) => some es
          | _ => none
        | _ => none) := by
  unfold mpF
  simp only [Yg]
def Zdk (flat : Nat) (z : D) (x : Opd) (k : Opd) (ok : Bool) (E : Env) (call : Call) (a : AAct) (h : H) : O D :=
  bif U7 flat (a.eval k) then match mpF h (a.eval x) with
      | some es => match finF (a.eval k) es with
        | some (some d) => .ok (bif ok then .tup [d, .v (.bool true)] else d) h
        | some none => .ok (bif ok then .tup [z, .v (.bool false)] else z) h
        | none => .fail "lookup: key"
      | none => .fail "lookup"
    else .fail "lookup"
theorem Zgw : @Zdk = @Vh := by
  funext flat z x k ok E call a h
  unfold Zdk Vh
  simp only [mpF_eq, Zv9]
  rfl
def Ze3 (flat : Nat) (m : Opd) (k : Opd) (x : Opd) (E : Env) (call : Call) (a : AAct) (h : H) : O D :=
  match a.eval m with
    | .map l => bif U7 flat (a.eval k) then match hget h.mem l with
      | some (.map es) => match semF (a.eval k) (a.eval x) es with
        | some es => .ok ZT (YX h l (.map es))
        | none => .fail "mapUpdate: key"
      | _ => .fail "mapUpdate"
      else .fail "mapUpdate"
    | _ => .fail "mapUpdate"
theorem Zgv : @Ze3 = @Uh := by
  funext flat m k x E call a h
  unfold Ze3 Uh
  simp only [Yg, Zu8, VS]
  rfl
def rpF (l : List D) (n : Nat) : List D := Nat.rec (motive := fun _ => List D) [] (fun _ ih => apF l ih) n
theorem Zzh (l : List D) : ∀ n, rpF l n = repeatL l n
  | 0 => rfl
  | n + 1 => by
    show apF l (rpF l n) = _
    rw [Zng, Zzh l n]; rfl
def Zje (e : TypeId) (size : Nat) (bytes : Nat) (z : List D) (l : Opd) (c : Opd) (E : Env) (call : Call) (a : AAct) (h : H) : O D :=
  match a.eval l, a.eval c with
    | .int _ (.ofNat n), .int _ (.ofNat m) =>
      bif Nat.ble m 140737488355328 && Nat.ble (m * bytes) 140737488355328 then
        bif Nat.beq n m then .ok (.row h.next 0 n n) (Ua h (.cells e (rpF z n)))
        else bif Nat.beq n 0 then .ok (.sl h.next 0 []) (Ua h (.tip 0 e))
        else .fail "makeSlice"
      else .fail "makeSlice"
    | _, _ => .fail "makeSlice"
theorem Zjd : @Zje = @Ui := by
  funext e size bytes z l c E call a h
  unfold Zje Ui
  simp only [Zzh, Ur]
  rfl
def Zf4 (size : Nat) (x : Opd) (lo : Option Opd) (hi : Option Opd) (E : Env) (call : Call) (a : AAct) (h : H) : O D :=
  match a.eval x with
  | .sl id n cs => match Xf n n (lo.map a.eval) (hi.map a.eval) with
    | some (l, k) => bif Nat.beq l 0 && Nat.beq k n then .ok (.sl id n cs) h else .ok (.sl 0 (k - l) (tkF ((k - l) * size) (Zxy (l * size) cs))) h
    | none => .fail "slice"
  | d => Uy (Zi4 size d (lo.map a.eval) (hi.map a.eval)) h "slice"
theorem Zjc : @Zf4 = @Ug := by
  funext size x lo hi E call a h
  unfold Zf4 Ug
  cases a.eval x <;> try rfl
  rename_i id n cs
  simp only [Zi4, Zyj, Zh2]
  cases Xf n n (lo.map a.eval) (hi.map a.eval) with
  | none => rfl
  | some p =>
    obtain ⟨l, k⟩ := p
    simp only
    cases Nat.beq l 0 && Nat.beq k n <;> rfl
def Zo (x : Opd) (E : Env) (call : Call) (a : AAct) (h : H) : O D :=
  dPE (Zvp a x) (fun l o => .ok (.ptr l o) h) (fun cs => .ok (.ep cs) h) (X3 x E call a h)
theorem Zdj : @Zo = @X3 := by
  funext x E call a h
  unfold Zo
  rw [Zcr]
  cases hx : a.eval x <;> try rfl
  all_goals (unfold X3; rw [hx]; rfl)
def YI (x : Opd) (E : Env) (call : Call) (a : AAct) (h : H) : O D :=
  dSl (Zvp a x) (fun _ n _ => .ok (.int .i64 (.ofNat n)) h) (Zcp x E call a h)
theorem Zl3 : @YI = @Zcp := by
  funext x E call a h
  unfold YI
  rw [Zcr]
  cases hx : a.eval x <;> try rfl
  all_goals (unfold Zcp; rw [hx]; rfl)
def Zft (op : UnOp) (x : Opd) (E : Env) (call : Call) (a : AAct) (h : H) : O D :=
  dB (Zvp a x) (fun b => UnOp.rec (motive := fun _ => O D) (Zda op x E call a h) (Zda op x E call a h) (.ok (.v (.bool (Bool.rec (motive := fun _ => Bool) true false b))) h) (Zda op x E call a h) op) (Zda op x E call a h)
theorem Zvd : @Zft = @Zda := by
  funext op x E call a h
  unfold Zft
  rw [Zcr]
  cases hx : a.eval x <;> try rfl
  rename_i v
  cases v <;> try rfl
  cases op <;> try rfl
  rename_i b
  unfold Zda
  rw [hx]
  cases b <;> rfl
def tvN (k : Nat) : Nat → Tr D → D := Nat.rec (motive := fun _ => Nat → Tr D → D) (fun n t => match t.get n with
    | some d => d
    | none => ZT) (fun _ ih n t => Tr.rec (motive := fun _ => D) ZT (fun l v r _ _ => bif Nat.beq n 0 then Option.rec (motive := fun _ => D) ZT (fun d => d) v else bif Nat.beq (Nat.mod n 2) 1 then ih (Nat.div n 2) l else ih (Nat.pred (Nat.div n 2)) r) t) k
theorem Ztl : ∀ (k n : Nat) (t : Tr D), tvN k n t = (match t.get n with
    | some d => d
    | none => ZT)
  | 0, n, t => rfl
  | k + 1, n, .nil => rfl
  | k + 1, n, .node l v r => by
    show (bif Nat.beq n 0 then Option.rec (motive := fun _ => D) ZT (fun d => d) v else bif Nat.beq (Nat.mod n 2) 1 then tvN k (Nat.div n 2) l else tvN k (Nat.pred (Nat.div n 2)) r) = _
    rw [Ztl k, Ztl k, Tr.get]
    cases Nat.beq n 0 with
    | true => cases v <;> rfl
    | false =>
      simp only [cond_false]
      have e : Nat.beq (n % 2) 1 = Nat.beq (Nat.mod n 2) 1 := rfl
      rw [e]
      cases Nat.beq (Nat.mod n 2) 1 <;> rfl
def tvF (a : AAct) (n : Nat) : D := tvN 12 n a.tmps
theorem tvF_eq (a : AAct) (n : Nat) : tvF a n = a.eval (.t n) := Ztl 12 n a.tmps
def crF (a : AAct) (h : H) (l : List CRes) : Option (List D) := List.rec (motive := fun _ => Option (List D)) (some []) (fun r _ ih => match (match r with
      | .t n => some (tvF a n)
      | .c1 n => match Zw6 h (tvF a n) 1 with
        | some [d] => some d
        | _ => none
      | .cN n size => match Zw6 h (tvF a n) size with
        | some cs => some (.agg cs)
        | none => none) with
    | some d => Option.rec (motive := fun _ => Option (List D)) none (fun ds => some (d :: ds)) ih
    | none => none) l
theorem Z1c (a : AAct) (h : H) : ∀ l, crF a h l = YK a h l
  | [] => rfl
  | r :: rs => by
    show (match (match r with
      | .t n => some (tvF a n)
      | .c1 n => match Zw6 h (tvF a n) 1 with
        | some [d] => some d
        | _ => none
      | .cN n size => match Zw6 h (tvF a n) size with
        | some cs => some (.agg cs)
        | none => none) with
    | some d => Option.rec (motive := fun _ => Option (List D)) none (fun ds => some (d :: ds)) (crF a h rs)
    | none => none) = _
    rw [Z1c a h rs]
    cases r <;> simp only [YK, tvF_eq, Zbt]
    all_goals generalize YK a h rs = R
    case t n => cases R <;> rfl
    case c1 n =>
      generalize Zi h (a.eval (.t n)) 1 = C
      rcases C with _ | _ | ⟨d, _ | _⟩ <;> cases R <;> rfl
    case cN n size =>
      generalize Zi h (a.eval (.t n)) size = C
      cases C <;> cases R <;> rfl
def VU (fn : CFn) (a : AAct) (h : H) : O D :=
  match crF a h fn.results with
  | some ds => .ok (Zz1 ds) h
  | none => .fail "results"
theorem Zcg : @VU = @Uv := by
  funext fn a h
  unfold VU Uv
  rw [Z1c]
  rfl
theorem Zpy (i : Nat) : ∀ l, Zxf i l = Ye i l
  | [] => rfl
  | x :: r => by
    show (bif Nat.beq x i then true else Zxf i r) = _
    rw [Zpy i r, Ye]
    first
      | rfl
      | (cases Nat.beq x i <;> rfl)
      | (rw [show Nat.beq x i = Nat.beq i x from by rw [Bool.eq_iff_iff, Nat.beq_eq, Nat.beq_eq]; exact eq_comm]; cases Nat.beq i x <;> rfl)
def rkF (inc : List Nat) (x : D) (cs : List D) (recs : List Rec) : Bool := List.rec (motive := fun _ => Bool) true (fun r _ ih => match r with
  | .loud i h => bif Zxf i inc then (match Zw6 h x (Z0g cs 0) with
    | some ds => bif Y6 cs ds then ih else false
    | none => false) else ih
  | _ => ih) recs
theorem Ze1 (inc : List Nat) (x : D) (cs : List D) : ∀ recs, rkF inc x cs recs = Xe inc x cs recs
  | [] => rfl
  | r :: rs => by
    show (match r with
      | .loud i h => bif Zxf i inc then (match Zw6 h x (Z0g cs 0) with
        | some ds => bif Y6 cs ds then rkF inc x cs rs else false
        | none => false) else rkF inc x cs rs
      | _ => rkF inc x cs rs) = _
    rw [Ze1 inc x cs rs]
    cases r with
    | loud i h =>
      simp only [Zpy, Zbt, Zgc, Nat.zero_add, Xe]
      cases Ye i inc with
      | false => rfl
      | true =>
        simp only [cond_true, Bool.not_true, Bool.false_or]
        cases Zi h x cs.length with
        | none => rfl
        | some ds => simp only; cases Y6 cs ds <;> rfl
    | _ => rfl
def lkF (inc : List Nat) (h : H) (recs : List Rec) : Bool := List.rec (motive := fun _ => Bool) true (fun r _ ih => match r with
  | .rd i x cs => bif Zxf i inc then (match Zw6 h x (Z0g cs 0) with
    | some ds => bif Y6 cs ds then ih else false
    | none => false) else ih
  | _ => ih) recs
theorem Zdp (inc : List Nat) (h : H) : ∀ recs, lkF inc h recs = Yz inc h recs
  | [] => rfl
  | r :: rs => by
    show (match r with
      | .rd i x cs => bif Zxf i inc then (match Zw6 h x (Z0g cs 0) with
        | some ds => bif Y6 cs ds then lkF inc h rs else false
        | none => false) else lkF inc h rs
      | _ => lkF inc h rs) = _
    rw [Zdp inc h rs]
    cases r with
    | rd i x cs =>
      simp only [Zpy, Zbt, Zgc, Nat.zero_add, Yz]
      cases Ye i inc with
      | false => rfl
      | true =>
        simp only [cond_true, Bool.not_true, Bool.false_or]
        cases Zi h x cs.length with
        | none => rfl
        | some ds => simp only; cases Y6 cs ds <;> rfl
    | _ => rfl
end
end Go.Abs
namespace Go.Abs
noncomputable section
def kNum (k : IntKind) : Nat := IntKind.rec (motive := fun _ => Nat) 0 1 2 3 4 5 6 7 k
def kEq (a b : IntKind) : Bool := Nat.beq (kNum a) (kNum b)
theorem kEq_eq (a b : IntKind) : kEq a b = decide (a = b) := by cases a <;> cases b <;> rfl
def Zsg (k : IntKind) : Nat :=
  match k with
  | .i8 => 127
  | .i16 => 32767
  | .i32 => 2147483647
  | .i64 => 9223372036854775807
  | .u8 => 255
  | .u16 => 65535
  | .u32 => 4294967295
  | .u64 => 18446744073709551615
theorem Zmu (k : IntKind) (m : Nat) : Z0p k (.ofNat m) = Nat.ble m (Zsg k) := by
  cases k <;> (rw [Bool.eq_iff_iff]; simp only [Z0p, Zsg, Bool.and_eq_true, decide_eq_true_eq, Nat.ble_eq, Int.ofNat_eq_natCast]; omega)
def Zb1 (k : IntKind) (n : Int) : Int := Int.rec (motive := fun _ => Int) (fun m => bif Nat.ble m (Zsg k) then .ofNat m else Zfk k (.ofNat m)) (fun m => Zfk k (.negSucc m)) n
theorem Zh7 (k : IntKind) (n : Int) : Zb1 k n = Zfk k n := by
  cases n with
  | ofNat m =>
    show (bif Nat.ble m (Zsg k) then Int.ofNat m else Zfk k (.ofNat m)) = _
    cases h : Nat.ble m (Zsg k) with
    | true => simp only [cond_true, Zfk, Zmu, h]
    | false => rfl
  | negSucc m => rfl
def iAdd (a b : Int) : Int := Int.rec (motive := fun _ => Int) (fun m => Int.rec (motive := fun _ => Int) (fun n => .ofNat (Nat.add m n)) (fun n => .ofNat m + .negSucc n) b) (fun m => .negSucc m + b) a
theorem iAdd_eq (a b : Int) : iAdd a b = a + b := by cases a <;> cases b <;> rfl
def iSub (a b : Int) : Int := Int.rec (motive := fun _ => Int) (fun m => Int.rec (motive := fun _ => Int) (fun n => bif Nat.ble n m then .ofNat (Nat.sub m n) else .ofNat m - .ofNat n) (fun n => .ofNat m - .negSucc n) b) (fun m => .negSucc m - b) a
theorem Zv3 (a b : Int) : iSub a b = a - b := by
  cases a with
  | negSucc m => rfl
  | ofNat m => cases b with
    | negSucc n => rfl
    | ofNat n =>
      simp only [iSub]
      cases h : Nat.ble n m with
      | false => rfl
      | true =>
        have := Nat.le_of_ble_eq_true h
        simp only [cond_true]
        show Int.ofNat (m - n) = _
        simp only [Int.ofNat_eq_natCast]; omega
def iMul (a b : Int) : Int := Int.rec (motive := fun _ => Int) (fun m => Int.rec (motive := fun _ => Int) (fun n => .ofNat (Nat.mul m n)) (fun n => .ofNat m * .negSucc n) b) (fun m => .negSucc m * b) a
theorem Zv4 (a b : Int) : iMul a b = a * b := by cases a <;> cases b <;> rfl
def iEq (a b : Int) : Bool := Int.rec (motive := fun _ => Bool) (fun m => Int.rec (motive := fun _ => Bool) (fun n => Nat.beq m n) (fun n => false) b) (fun m => Int.rec (motive := fun _ => Bool) (fun n => false) (fun n => Nat.beq m n) b) a
theorem Xg (m n : Nat) : Nat.beq m n = decide (m = n) := by
  cases h : Nat.beq m n with
  | true => simp [Nat.eq_of_beq_eq_true h]
  | false => simp; exact fun e => by subst e; rw [Nat.beq_refl] at h; cases h
theorem iEq_eq (a b : Int) : iEq a b = decide (a = b) := by
  cases a <;> cases b <;> simp [iEq, Xg]
  all_goals (first | omega | rfl | (rename_i m n; constructor <;> intro h <;> omega))
def iLt (a b : Int) : Bool := Int.rec (motive := fun _ => Bool) (fun m => Int.rec (motive := fun _ => Bool) (fun n => Nat.blt m n) (fun n => decide (Int.ofNat m < .negSucc n)) b) (fun m => decide (Int.negSucc m < b)) a
theorem XU (m n : Nat) : Nat.blt m n = decide (m < n) := by
  rw [Bool.eq_iff_iff]
  simp only [Nat.blt_eq, decide_eq_true_eq]
theorem Z0q (a b : Int) : iLt a b = decide (a < b) := by
  cases a with
  | negSucc m => rfl
  | ofNat m => cases b with
    | negSucc n => rfl
    | ofNat n => simp only [iLt, XU, Int.ofNat_eq_natCast, Int.ofNat_lt]
def Zsi (a b : Int) : Bool := !iLt b a
theorem iLe_eq (a b : Int) : Zsi a b = decide (a ≤ b) := by
  rw [Zsi, Z0q]
  by_cases h : b < a
  · simp [h]
  · simp [h]; omega
abbrev Zb0 := Env → Call → Tr D → H → O D
def Zzp (op : BinOp) (t : TypeId) (ox oy : Operand) (a b : List Nat) (E : Env) (h : H) : O D :=
  match op with
  | .eql => .ok (.v (.bool (eqF a b))) h
  | .neq => .ok (.v (.bool (!eqF a b))) h
  | .add => bif Nat.ble (Nat.add (Zqs a) (Zqs b)) 140737488355328 then .ok (.str (apF a b)) h else Uy (Zbs E .add t ox oy (.str a) (.str b)) h "bin"
  | op => Uy (Zbs E op t ox oy (.str a) (.str b)) h "bin"
theorem Zvj (op : BinOp) (t : TypeId) (ox oy : Operand) (a b : List Nat) (E : Env) (h : H) : Zzp op t ox oy a b E h = Uy (Zbs E op t ox oy (.str a) (.str b)) h "bin" := by
  cases op <;> try rfl
  · simp only [Zzp, Zjt, Zng]
    cases hb : Nat.ble (Nat.add a.length b.length) 140737488355328 with
    | false => rfl
    | true =>
      have hb' : Nat.ble (a.length + b.length) 140737488355328 = true := hb
      simp only [cond_true, Zbs, Ul, hb', Uy]
  · simp only [Zzp, Zqd, Zbs, Ul, Uy]
  · simp only [Zzp, Zqd, Zbs, Ul, Uy]
def Zrr (E : Env) (op : BinOp) (t : TypeId) (ox oy : Operand) (x y : D) (h : H) : O D := Uy (Zbs E op t ox oy x y) h "bin"
def Zq (f : IntKind → Int → Int → D) (op : BinOp) (t : TypeId) (ox oy : Operand) (g1 g2 : Tr D → D) : Zb0 := fun E call tr h =>
  (fun x y => dIS x (fun k a => dInt y (fun k' b => Bool.rec (motive := fun _ => O D) (Zrr E op t ox oy x y h) (.ok (f k a b) h) (kEq k k')) (Zrr E op t ox oy x y h)) (fun a => dStr y (fun b => Zzp op t ox oy a b E h) (Zrr E op t ox oy x y h)) (Zrr E op t ox oy x y h)) (g1 tr) (g2 tr)
def YJ (k : IntKind) (a b : Int) : D := .int k (Zb1 k (iAdd a b))
def Zgh (k : IntKind) (a b : Int) : D := .int k (Zb1 k (iSub a b))
def Z1b (k : IntKind) (a b : Int) : D := .int k (Zb1 k (iMul a b))
def YD (k : IntKind) (a b : Int) : D := .v (.bool (iEq a b))
def VT (k : IntKind) (a b : Int) : D := .v (.bool (!iEq a b))
def WH (k : IntKind) (a b : Int) : D := .v (.bool (iLt a b))
def Zfx (k : IntKind) (a b : Int) : D := .v (.bool (Zsi a b))
def Zcy (k : IntKind) (a b : Int) : D := .v (.bool (iLt b a))
def Zc3 (k : IntKind) (a b : Int) : D := .v (.bool (Zsi b a))
def Zpj (op : BinOp) (t : TypeId) (ox oy : Operand) (g1 g2 : Tr D → D) : Zb0 := fun E call tr h => Uy (Zbs E op t ox oy (g1 tr) (g2 tr)) h "bin"
def fbin (op : BinOp) (t : TypeId) (ox oy : Operand) (g1 g2 : Tr D → D) : Zb0 :=
  match op with
  | .add => Zq YJ .add t ox oy g1 g2
  | .sub => Zq Zgh .sub t ox oy g1 g2
  | .mul => Zq Z1b .mul t ox oy g1 g2
  | .eql => Zq YD .eql t ox oy g1 g2
  | .neq => Zq VT .neq t ox oy g1 g2
  | .lss => Zq WH .lss t ox oy g1 g2
  | .leq => Zq Zfx .leq t ox oy g1 g2
  | .gtr => Zq Zcy .gtr t ox oy g1 g2
  | .geq => Zq Zc3 .geq t ox oy g1 g2
  | op => Zpj op t ox oy g1 g2
theorem Z2y {f : IntKind → Int → Int → D} {op : BinOp} (hf : ∀ k a b, Ul op (.int k a) (.int k b) = some (f k a b)) (t : TypeId) (ox oy : Operand) (g1 g2 : Tr D → D) (E : Env) (call : Call) (tr : Tr D) (h : H) :
    Zq f op t ox oy g1 g2 E call tr h = Uy (Zbs E op t ox oy (g1 tr) (g2 tr)) h "bin" := by
  unfold Zq
  generalize g1 tr = x
  generalize g2 tr = y
  cases x <;> try rfl
  · cases y <;> try rfl
    rename_i k a k' b
    show Bool.rec (motive := fun _ => O D) _ _ (kEq k k') = _
    rw [kEq_eq]
    by_cases hk : k = k'
    · subst hk
      simp [Zbs, hf, Uy]
    · simp [hk, Zrr]
  · cases y <;> try rfl
    exact Zvj ..
theorem fbin_eq (op : BinOp) (t : TypeId) (ox oy : Operand) (g1 g2 : Tr D → D) (E : Env) (call : Call) (tr : Tr D) (h : H) :
    fbin op t ox oy g1 g2 E call tr h = Uy (Zbs E op t ox oy (g1 tr) (g2 tr)) h "bin" := by
  cases op <;> first
    | rfl
    | (refine Z2y (fun k a b => ?_) t ox oy g1 g2 E call tr h
       simp [Ul, YJ, Zgh, Z1b, YD, VT, WH, Zfx, Zcy, Zc3, Zh7, iAdd_eq, Zv3, Zv4, iEq_eq, Z0q, iLe_eq])
def ZO (g : Tr D → D) : Zb0 := fun E call t h =>
  dPE (g t) (fun l off => Zhs (hget h.mem l) (fun _ cs => Uc (dpR off cs) (fun d _ => .ok d h) (.fail "load")) (.fail "load")) (fun cs => Uc cs (fun d _ => .ok d h) (.fail "load")) (.fail "load")
theorem Zv8 (g : Tr D → D) (E : Env) (call : Call) (t : Tr D) (h : H) (x : Opd) (hx : (act t).eval x = g t) : ZO g E call t h = Zf6 x E call (act t) h := by
  unfold ZO Zf6
  rw [hx]
  cases g t <;> try rfl
  · rename_i l off
    show Zhs (hget h.mem l) _ _ = _
    simp only [Zi, Yg]
    cases h.mem.get l with
    | none => rfl
    | some o => cases o with
      | cells ty cs =>
        show Uc (dpR off cs) _ _ = _
        simp only [Zj2]; cases hd : cs.drop off <;> simp [Nat.beq, Uc]
      | _ => rfl
  · rename_i cs
    show Uc cs _ _ = _
    cases cs <;> simp [Nat.beq, Uc, Zi]
def Yy (n : Nat) (g : Tr D → D) : Zb0 := fun E call t h =>
  dPE (g t) (fun l off => Zhs (hget h.mem l) (fun _ cs => oDs (Z1z n (dpR off cs)) (fun r => .ok (.agg r) h) (.fail "loadN")) (.fail "loadN")) (fun cs => oDs (Z1z n cs) (fun r => .ok (.agg r) h) (.fail "loadN")) (.fail "loadN")
theorem Zv7 (n : Nat) (g : Tr D → D) (E : Env) (call : Call) (t : Tr D) (h : H) (x : Opd) (hx : (act t).eval x = g t) : Yy n g E call t h = Zf5 n x E call (act t) h := by
  unfold Yy Zf5
  rw [hx]
  cases g t <;> try rfl
  · rename_i l off
    show Zhs (hget h.mem l) _ _ = _
    simp only [Zi, Yg]
    cases h.mem.get l with
    | none => rfl
    | some o => cases o with
      | cells ty cs =>
        show oDs (Z1z n (dpR off cs)) _ _ = _
        simp only [Zh0, Zj2]
        cases Nat.beq ((cs.drop off).take n).length n <;> rfl
      | _ => rfl
  · rename_i cs
    show oDs (Z1z n cs) _ _ = _
    simp only [Zi, Zh0]
    cases Nat.beq (cs.take n).length n <;> rfl
def ZV (n : Nat) (g1 g2 : Tr D → D) : Zb0 := fun E call t h =>
  dPtr (g1 t) (fun l off => Zhs (hget h.mem l) (fun ty cs => (fun xs => Bool.rec (motive := fun _ => O D) (.fail "store") (Bool.rec (motive := fun _ => O D) (.fail "store") (oDs (paF off xs cs) (fun cs => .ok ZT (YX h l (.cells ty cs))) (.fail "store")) (Z23 xs)) (Nat.beq (Z0g xs 0) n)) (Zj4 (g2 t))) (.fail "store")) (.fail "store")
theorem fst1_eq (n : Nat) (g1 g2 : Tr D → D) (E : Env) (call : Call) (t : Tr D) (h : H) (x y : Opd) (hx : (act t).eval x = g1 t) (hy : (act t).eval y = g2 t) : ZV n g1 g2 E call t h = Znn n x y E call (act t) h := by
  unfold ZV Znn
  rw [hx, hy]
  simp only [Zhj]
  cases g1 t <;> try rfl
  rename_i l off
  show Zhs (hget h.mem l) _ _ = _
  simp only [Yg]
  cases h.mem.get l with
  | none => rfl
  | some o => cases o with
    | cells ty cs =>
      show Bool.rec (motive := fun _ => O D) _ _ _ = _
      simp only [Zgc, Nat.zero_add, Zk6, Zps, VS, Zci]
      cases Nat.beq (g2 t).cells.length n with
      | false => rfl
      | true => cases Y8 (g2 t).cells with
        | false => rfl
        | true => simp only [Bool.and_self, cond_true]; cases patch cs off (g2 t).cells <;> rfl
    | _ => rfl
def ZN (ty : TypeId) (z : List D) : Zb0 := fun E call t h => .ok (.ptr h.next 0) (Ua h (.cells ty z))
def UA (ty : TypeId) (g : Tr D → D) : Zb0 := fun E call t h => .ok (.ptr h.next 0) (Ua h (.cells ty (Zj4 (g t))))
def Zm1 : Zb0 := fun E call t h => .ok (.map h.next) (Ua h (.map []))
def WK (t : Tr D) (cells : List D) : List (Nat × Nat × (Tr D → D)) → Option (List D)
  | [] => some cells
  | (off, size, g) :: r => bif Nat.beq (g t).cells.length size then (match patch cells off (g t).cells with
      | some cells => WK t cells r
      | none => none) else none
def fflF (t : Tr D) (cells : List D) (l : List (Nat × Nat × (Tr D → D))) : Option (List D) :=
  List.rec (motive := fun _ => List D → Option (List D)) (fun cells => some cells) (fun p _ ih cells => (fun xs => Bool.rec (motive := fun _ => Option (List D)) none (Option.rec (motive := fun _ => Option (List D)) none ih (paF p.1 xs cells)) (Nat.beq (Z0g xs 0) p.2.1)) (Zj4 (p.2.2 t))) l cells
theorem Zff (t : Tr D) : ∀ (l : List (Nat × Nat × (Tr D → D))) (cells : List D), fflF t cells l = WK t cells l
  | [], cells => rfl
  | (off, size, g) :: r, cells => by
    show Bool.rec (motive := fun _ => Option (List D)) none (Option.rec (motive := fun _ => Option (List D)) none (fun c => fflF t c r) (paF off (Zj4 (g t)) cells)) (Nat.beq (Z0g (Zj4 (g t)) 0) size) = _
    rw [Zci, Zgc, Nat.zero_add, Zps, WK]
    cases Nat.beq (g t).cells.length size with
    | false => rfl
    | true =>
      simp only [cond_true]
      cases patch cells off (g t).cells with
      | none => rfl
      | some c => simp only [Zff t r]
def Zmx (ps : List (Nat × Nat × Opd)) : List (Nat × Nat × (Tr D → D)) := ps.map fun p => (p.1, p.2.1, fe p.2.2)
theorem Zm5 (t : Tr D) : ∀ (ps : List (Nat × Nat × Opd)) (cells : List D), WK t cells (Zmx ps) = UF (act t) cells ps
  | [], cells => rfl
  | (off, size, x) :: r, cells => by
    simp only [Zmx, List.map_cons, WK, UF, Ys]
    cases Nat.beq ((act t).eval x).cells.length size with
    | false => rfl
    | true =>
      simp only [cond_true]
      cases patch cells off ((act t).eval x).cells with
      | none => rfl
      | some c => exact Zm5 t r c
def YA (z : List D) (ps : List (Nat × Nat × (Tr D → D))) : Zb0 := fun E call t h =>
  match fflF t z ps with
  | some cs => .ok (.agg cs) h
  | none => .fail "build"
def XK (e : TypeId) (len : Nat) (z : List D) (ps : List (Nat × Nat × (Tr D → D))) : Zb0 := fun E call t h =>
  match fflF t z ps with
  | some cs => .ok (.sl h.next len cs) (Ua h (.tip len e))
  | none => .fail "buildSl"
def ZC (g : Tr D → D) : Zb0 := fun E call t h => .ok (g t) h
def Xa (c x y : Tr D → D) : Zb0 := fun E call t h => dB (c t) (fun b => .ok (Bool.rec (motive := fun _ => D) (y t) (x t) b) h) (.fail "pick")
def WT (k : IntKind) (g : Tr D → D) : Zb0 := fun E call t h => dInt (g t) (fun _ n => .ok (.int k (Zb1 k n)) h) (.fail "cint")
def ZW (f : Nat) (gs : List (Tr D → D)) : Zb0 := fun E call t h => call f (Zkl gs t) h
def Z0y (g : Tr D → D) (gs : List (Tr D → D)) : Zb0 := fun E call t h => Zgm call (g t) (Zkl gs t) h
def Zqa (f : Opd) (gs : List (Tr D → D)) : Zb0 :=
  match f with
  | .d (.v (.func (.func n) ⟨[]⟩ ⟨[]⟩)) => ZW n gs
  | f => Z0y (fe f) gs
theorem Zxr (f : Opd) (args : List Opd) (E : Env) (call : Call) (t : Tr D) (h : H) : Zqa f (args.map fe) E call t h = Zf7 f args E call (act t) h := by
  unfold Zqa
  split
  · simp [ZW, Zf7, AAct.eval, Zgm, Zqb]
  · simp only [Z0y, Zf7, Zqb, Ys]
def Z0t (fn : Fn) (xs ys : List (Tr D → D)) : Zb0 := fun E call t h => .ok (.func fn (Zkl xs t) (Zkl ys t)) h
def fbi (b : Builtin) (ts : Array TypeId) (ty : TypeId) (cs : Array Bool) (gs : List (Tr D → D)) : Zb0 := fun E call t h =>
  match Ze7 (Zkl gs t) with
  | some vs => match Ze0 E.P (builtin b ts ty cs vs.toArray) with
    | some (.value v) => .ok (.of v) h
    | _ => .fail "builtin"
  | none => .fail "builtin: args"
def u1 (r : Opd → Env → Call → AAct → H → O D) (g : Tr D → D) : Zb0 := fun E call t h => r (.d (g t)) E call (act t) h
def u2 (r : Opd → Opd → Env → Call → AAct → H → O D) (g1 g2 : Tr D → D) : Zb0 := fun E call t h => r (.d (g1 t)) (.d (g2 t)) E call (act t) h
def u3 (r : Opd → Opd → Opd → Env → Call → AAct → H → O D) (g1 g2 g3 : Tr D → D) : Zb0 := fun E call t h => r (.d (g1 t)) (.d (g2 t)) (.d (g3 t)) E call (act t) h
def og (g : Option (Tr D → D)) (t : Tr D) : Option Opd :=
  match g with
  | some g => some (.d (g t))
  | none => none
def Zth (x : Option Opd) : Option (Tr D → D) :=
  match x with
  | some x => some (fe x)
  | none => none
def uo (r : Opd → Option Opd → Option Opd → Env → Call → AAct → H → O D) (g : Tr D → D) (lo hi : Option (Tr D → D)) : Zb0 := fun E call t h => r (.d (g t)) (og lo t) (og hi t) E call (act t) h
theorem og_eq (x : Option Opd) (t : Tr D) : (og (Zth x) t).map (act t).eval = x.map (act t).eval := by
  cases x <;> simp [og, Zth, AAct.eval, Ys]
def Z09 (n : Nat) (s : List Nat) : Option (List Nat) := Nat.rec (motive := fun _ => List Nat → Option (List Nat)) some (fun _ ih s => List.rec (motive := fun _ => Option (List Nat)) none (fun _ r _ => ih r) s) n s
def Zym (n : Nat) (s : List Nat) : Option (List Nat) := Z1z n s
theorem Zm8 : ∀ (n : Nat) (s : List Nat), Z09 n s = bif Nat.ble n s.length then some (s.drop n) else none
  | 0, s => by
    have e : Nat.ble 0 s.length = true := by rw [Nat.ble_eq]; exact Nat.zero_le _
    rw [e]; rfl
  | n + 1, [] => rfl
  | n + 1, b :: r => (Zm8 n r).trans rfl
theorem Zyl (n : Nat) (s : List Nat) : Zym n s = bif Nat.ble n s.length then some (s.take n) else none := by
  rw [Zym, Zh0, List.length_take]
  have : Nat.beq (min n s.length) n = Nat.ble n s.length := by
    rw [Bool.eq_iff_iff, Nat.beq_eq, Nat.ble_eq]; omega
  rw [this]
def Zbx (g : Tr D → D) (lo hi : Option (Tr D → D)) : Zb0 := fun E call t h =>
  match g t with
  | .str s => (match hi with
    | none => (match lo with
      | none => .ok (.str s) h
      | some l => (match l t with
        | .int _ (.ofNat n) => (match Z09 n s with
          | some r => .ok (.str r) h
          | none => .fail "slice: string")
        | _ => .fail "slice: string"))
    | some k => (match k t with
      | .int _ (.ofNat n) => (match Zym n s with
        | some r => (match lo with
          | none => .ok (.str r) h
          | some l => (match l t with
            | .int _ (.ofNat m) => (match Z09 m r with
              | some q => .ok (.str q) h
              | none => .fail "slice: string")
            | _ => .fail "slice: string"))
        | none => .fail "slice: string")
      | _ => .fail "slice: string"))
  | _ => .fail "slice: string"
theorem Zov (x : Opd) (lo hi : Option Opd) (E : Env) (call : Call) (t : Tr D) (h : H) : Zbx (fe x) (Zth lo) (Zth hi) E call t h = Zbd x lo hi E call (act t) h := by
  unfold Zbx Zbd
  rw [Ys]
  cases (act t).eval x
  case str s =>
    cases hi with
    | none =>
      cases lo with
      | none => simp [Zth, Xf, Zxo, Z1y]
      | some l =>
        simp only [Zth, Ys, Option.map_none, Option.map_some, Xf, Zxo, Z1y]
        cases (act t).eval l
        case int k n =>
          cases n with
          | ofNat n =>
            simp only [Zm8]
            cases hb : Nat.ble n s.length with
            | false => rfl
            | true =>
              simp only [cond_true]
              rw [List.take_of_length_le (by rw [List.length_drop]; exact Nat.le_refl _)]
          | negSucc n => rfl
        all_goals rfl
    | some k =>
      simp only [Zth, Ys, Option.map_some, Xf, Zxo]
      cases (act t).eval k
      case int q n =>
        cases n with
        | ofNat n =>
          simp only [Zyl]
          cases hb : Nat.ble n s.length with
          | false => rfl
          | true =>
            have hn : n ≤ s.length := Nat.le_of_ble_eq_true hb
            simp only [cond_true]
            cases lo with
            | none => simp [Z1y]
            | some l =>
              simp only [Option.map_some, Z1y, Ys]
              cases (act t).eval l
              case int q m =>
                cases m with
                | ofNat m =>
                  simp only [Zm8, List.length_take, Nat.min_eq_left hn]
                  cases Nat.ble m n with
                  | false => rfl
                  | true => simp only [cond_true, List.drop_take]
                | negSucc m => rfl
              all_goals rfl
        | negSucc n => rfl
      all_goals rfl
  all_goals rfl
def Zby : COp → Zb0
  | .mv x => ZC (fe x)
  | .mvs x => u1 Zha (fe x)
  | .pick c x y => Xa (fe c) (fe x) (fe y)
  | .alloc t z => ZN t z
  | .box t x => UA t (fe x)
  | .build z ps => YA z (Zmx ps)
  | .buildSl e n z ps => XK e n z (Zmx ps)
  | .ld1 x => ZO (fe x)
  | .ldN n x => Yy n (fe x)
  | .st n x y => ZV n (fe x) (fe y)
  | .nilCheck x => u1 Zo (fe x)
  | .bin op t ox oy x y => fbin op t ox oy (fe x) (fe y)
  | .un op x => u1 (Zft op) (fe x)
  | .cint k x => WT k (fe x)
  | .s2b e x => u1 (Zl2 e) (fe x)
  | .b2s x => u1 Zkf (fe x)
  | .conv s t x => u1 (Ze4 s t) (fe x)
  | .iface t x => u1 (Vf t) (fe x)
  | .mkf fn xs ys => Z0t fn (xs.map fe) (ys.map fe)
  | .mkmap => Zm1
  | .mksl e s b z l c => u2 (Zje e s b z) (fe l) (fe c)
  | .slstr x lo hi => Zbx (fe x) (Zth lo) (Zth hi)
  | .slsl s x lo hi => uo (Zf4 s) (fe x) (Zth lo) (Zth hi)
  | .slarr n s x lo hi => uo (Zbe n s) (fe x) (Zth lo) (Zth hi)
  | .fa n x => u1 (ZL n) (fe x)
  | .fld ag off n x => u1 (Zl7 ag off n) (fe x)
  | .ixa n s x i => u2 (Zzn n s) (fe x) (fe i)
  | .ixs s x i => u2 (Ym s) (fe x) (fe i)
  | .idxa ag n s x i => u2 (Zl5 ag n s) (fe x) (fe i)
  | .idxs x i => u2 Zhm (fe x) (fe i)
  | .apps e s x => u2 (Zmb e) (fe s) (fe x)
  | .lookV kt z x k ok => u2 (fun x k => Zbf kt z x k ok) (fe x) (fe k)
  | .msetV kt m k x => u3 (Zc8 kt) (fe m) (fe k) (fe x)
  | .look f z x k ok => u2 (fun x k => Zdk f z x k ok) (fe x) (fe k)
  | .mset f m k x => u3 (Ze3 f) (fe m) (fe k) (fe x)
  | .tas t z x ok => u1 (fun x => Zc7 t z x ok) (fe x)
  | .ext i x => u1 (Zc9 i) (fe x)
  | .call f args => Zqa f (args.map fe)
  | .app e n b s x => u2 (Zbl e n b) (fe s) (fe x)
  | .lens x => u1 WD (fe x)
  | .len x => u1 YI (fe x)
  | .lenm x => u1 Zdl (fe x)
  | .copy n d s => u2 (Zji n) (fe d) (fe s)
  | .bi b ts t cs args => fbi b ts t cs (args.map fe)
  | .panic x => u1 VW (fe x)
  | .dfr x => u1 Zl9 (fe x)
  | .rcv => fun E call t h => Zro E call (act t) h
theorem Zjx (o : COp) (E : Env) (call : Call) (t : Tr D) (h : H) : Zby o E call t h = WA o E call (act t) h := by
  cases o
  case bin op ty ox oy x y => exact (fbin_eq op ty ox oy _ _ E call t h).trans (by simp only [Ys]; rfl)
  case ld1 x => exact Zv8 _ E call t h x (Ys x t).symm
  case ldN n x => exact Zv7 n _ E call t h x (Ys x t).symm
  case st n x y => exact fst1_eq n _ _ E call t h x y (Ys x t).symm (Ys y t).symm
  case call f args => exact Zxr f args E call t h
  case build z ps => simp only [Zby, YA, WA, Uf, Zff, Zm5]; rfl
  case buildSl e n z ps => simp only [Zby, XK, WA, Vg, Zff, Zm5, Ur]; cases UF (act t) z ps <;> rfl
  case mkf fn xs ys => simp only [Zby, Z0t, WA, Zhb, Zqb]
  case bi b ts ty cs args => simp only [Zby, fbi, WA, Zpp, Zqb]; rfl
  case alloc ty z => simp only [Zby, ZN, WA, Zb8, Ur]
  case box ty x => simp only [Zby, UA, WA, Zh9, Ur, Ys, Zci]
  case mkmap => simp only [Zby, Zm1, WA, Zb7, Ur]
  case slstr x lo hi => exact Zov x lo hi E call t h
  case slsl s x lo hi => simp only [Zby, uo, WA, Zjc, Ug, og_eq, Ys, AAct.eval]
  case ixs => simp only [Zby, u2, Ys, Zl4]; rfl
  case idxs => simp only [Zby, u2, Ys, Zjg]; rfl
  case lens => simp only [Zby, u1, Ys, Zjf]; rfl
  case fld => simp only [Zby, u1, Ys, Zl6]; rfl
  case fa => simp only [Zby, u1, Ys, Zpo]; rfl
  case ext => simp only [Zby, u1, Ys, Zl8]; rfl
  case app => simp only [Zby, u2, Ys, Zmc]; rfl
  case apps => simp only [Zby, u2, Ys, Zjj]; rfl
  case look => simp only [Zby, u2, Ys, Zgw]; rfl
  case mset => simp only [Zby, u3, Ys, Zgv]; rfl
  case mksl => simp only [Zby, u2, Ys, Zjd]; rfl
  case s2b => simp only [Zby, u1, Ys, Zl1]; rfl
  case b2s => simp only [Zby, u1, Ys, Zma]; rfl
  case ixa => simp only [Zby, u2, Ys, Zrq]; rfl
  case idxa => simp only [Zby, u2, Ys, Zjh]; rfl
  case slarr n s x lo hi => simp only [Zby, uo, WA, Zbe, og_eq, Ys, AAct.eval]
  case cint k x =>
    simp only [Zby, WT, WA, Ze5, Ys, Zh7]; cases (act t).eval x <;> rfl
  case pick c x y =>
    simp only [Zby, Xa, WA, Ze2, Ys]
    cases (act t).eval c <;> try rfl
    rename_i v
    cases v <;> try rfl
    rename_i b
    cases b <;> rfl
  case nilCheck => simp only [Zby, u1, Ys, Zdj]; rfl
  case len => simp only [Zby, u1, Ys, Zl3]; rfl
  case un => simp only [Zby, u1, Ys, Zvd]; rfl
  case mv x => simp only [Zby, ZC, WA, Zpn, Ys]
  all_goals first
    | rfl
    | (simp only [Zby, u1, u2, u3, Ys]; rfl)
end
end Go.Abs
namespace Go.Abs
noncomputable section
def Ok (x : XT) (y : X) : Prop :=
  match x with
  | .out e t h => y = .out e (act t) h
  | .panic d h => ∃ a : AAct, y = .panic d a h ∧ a.defers = []
  | .fail _ => True
abbrev FR := Env → Call → Tr D → H → XT
abbrev FD := Env → Call → List Rec → Tr D → H → XT
abbrev FC := Env → Call → Nat → Tr D → H → XT
def Z8 : FR := fun E call t h => .out .normal t h
def fo (f : Zb0) (p : D → Tr D → Tr D) (k : FR) : FR := fun E call t h => O.rec (motive := fun _ => XT) (fun d h' => k E call (p d t) h') (fun d h' => .panic d h') (fun w => .fail w) (f E call t h)
def wanted (d : D) (want : Bool) : Bool := dBb d (fun b => Bool.rec (motive := fun _ => Bool) (Bool.rec (motive := fun _ => Bool) true false want) want b) false
def YG (g : Tr D → D) (want : Bool) (f : Zb0) (p : D → Tr D → Tr D) (k : FR) : FR := fun E call t h =>
  Bool.rec (motive := fun _ => XT) (k E call (p ZT t) h) (fo f p k E call t h) (wanted (g t) want)
def Zmy : List CO → FR
  | [] => Z8
  | o :: r => match o.guard with
    | none => fo (Zby o.op) (Zeq o.dst) (Zmy r)
    | some (t, w) => YG (gF (t + 1) t) w (Zby o.op) (Zeq o.dst) (Zmy r)
theorem Zj7 {o : CO} {t : Tr D} (hg : o.guard = none) : ZA (act t) o = true := by simp [ZA, hg]
theorem Zc4 {o : CO} {t : Tr D} {n : Nat} {w : Bool} (hg : o.guard = some (n, w)) : ZA (act t) o = wanted (gF (n + 1) n t) w := by
  simp only [ZA, hg, Zsk _ _ t (Nat.lt_succ_self n)]
  show (match t.get n with
    | some (.v (.bool b)) => bif b then w else !w
    | _ => false) = _
  cases t.get n with
  | none => rfl
  | some d =>
    cases d <;> try rfl
    rename_i x
    cases x <;> try rfl
    rename_i b
    cases b <;> cases w <;> rfl
theorem Zp8 (E : Env) (call : Call) : ∀ (l : List CO) (t : Tr D) (h : H), Ok (Zmy l E call t h) (Y9 E call l (act t) h)
  | [], t, h => rfl
  | o :: r, t, h => by
    have key : ZA (act t) o = true → Ok (fo (Zby o.op) (Zeq o.dst) (Zmy r) E call t h) (Y9 E call (o :: r) (act t) h) := by
      intro hw
      simp only [fo, Zjx, Y9, hw, cond_true]
      split
      · rename_i f he
        simp only [he, WA, Zl9, Ok]
      · show Ok (O.rec (motive := fun _ => XT) (fun d h' => Zmy r E call (Zeq o.dst d t) h') (fun d h' => .panic d h') (fun w => .fail w) (WA o.op E call (act t) h)) (match U3 E call (act t) o.op h with
          | .ok d h => Y9 E call r ((act t).put o.dst d) h
          | .panic d h => .panic d (act t) h
          | .fail w => .fail w)
        rw [U3]
        cases WA o.op E call (act t) h with
        | ok d h' =>
          show Ok (Zmy r E call (Zeq o.dst d t) h') (Y9 E call r ((act t).put o.dst d) h')
          rw [← Zdc]; exact Zp8 E call r _ _
        | panic d h' => exact ⟨act t, rfl, rfl⟩
        | fail w => exact trivial
    cases hg : o.guard with
    | none => simp only [Zmy, hg]; exact key (Zj7 hg)
    | some q =>
      obtain ⟨n, w⟩ := q
      simp only [Zmy, hg, YG]
      cases hw : wanted (gF (n + 1) n t) w with
      | true => simp only [cond_true]; exact key ((Zc4 hg).trans hw)
      | false =>
        have : ZA (act t) o = false := (Zc4 hg).trans hw
        simp only [cond_false, Y9, this]
        rw [← Zdc]; exact Zp8 E call r _ _
def YZ : FD := fun E call recs t h => .out .normal t h
def fdbad : FD := fun E call recs t h => .fail "draw"
def Zu (f : Zb0) (p : D → Tr D → Tr D) (k : FD) : FD := fun E call recs t h => O.rec (motive := fun _ => XT) (fun d h' => k E call recs (p d t) h') (fun _ _ => .fail "draw: panic") (fun w => .fail w) (f E call t h)
def Z1x (o : Option (List D)) (k : List D → XT) (z : XT) : XT := Option.rec (motive := fun _ => XT) z k o
def Xj (i : Nat) (inc : List Nat) (n : Nat) (g : Tr D → D) (f : Zb0) (p : D → Tr D → Tr D) (k : FD) : FD := fun E call recs t h => O.rec (motive := fun _ => XT)
  (fun d h' => Z1x (Zw6 h (g t) n) (fun cs => Bool.rec (motive := fun _ => XT) (.fail "draw: read") (k E call (.rd i (g t) cs :: recs) (p d t) h') (rkF inc (g t) cs recs)) (.fail "draw: cells")) (fun _ _ => .fail "draw: panic") (fun w => .fail w) (f E call t h)
def fdrb (i : Nat) (inc : List Nat) (g : Tr D → D) (f : Zb0) (p : D → Tr D → Tr D) (k : FD) : FD := fun E call recs t h => O.rec (motive := fun _ => XT)
  (fun d h' => Z1x (Zw6 h (Zg9 (g t)).1 (Zg9 (g t)).2) (fun cs => Bool.rec (motive := fun _ => XT) (.fail "draw: read") (k E call (.rd i (Zg9 (g t)).1 cs :: recs) (p d t) h') (rkF inc (Zg9 (g t)).1 cs recs)) (.fail "draw: cells")) (fun _ _ => .fail "draw: panic") (fun w => .fail w) (f E call t h)
def Zfw (i : Nat) (inc : List Nat) (f : Zb0) (p : D → Tr D → Tr D) (k : FD) : FD := fun E call recs t h => O.rec (motive := fun _ => XT)
  (fun d h' => Bool.rec (motive := fun _ => XT) (.fail "draw: loud") (k E call (.loud i h :: recs) (p d t) h') (lkF inc h' recs)) (fun _ _ => .fail "draw: panic") (fun w => .fail w) (f E call t h)
def Zim (i : Nat) (inc : List Nat) (f : Zb0) (p : D → Tr D → Tr D) (k : FD) : FD := fun E call recs t h => O.rec (motive := fun _ => XT)
  (fun d h' => Bool.rec (motive := fun _ => XT) (.fail "draw: loud") (k E call (.loud i h :: recs) (p d t) h') (lkF inc h' recs)) (fun d h' => .panic d h') (fun w => .fail w) (f E call t h)
def Zmw : COp → Bool
  | .call .. => true
  | _ => false
def Zsr (g : Tr D → D) (want : Bool) (y : FD → FD) (p : D → Tr D → Tr D) (k : FD) : FD := fun E call recs t h =>
  Bool.rec (motive := fun _ => XT) (k E call recs (p ZT t) h) (y k E call recs t h) (wanted (g t) want)
def Z0x (i : Nat) (inc : List Nat) (lt : Bool) (o : CO) : FD → FD :=
  match o.op with
  | .ld1 x => Xj i inc 1 (fe x) (Zby o.op) (Zeq o.dst)
  | .ldN n x => Xj i inc n (fe x) (Zby o.op) (Zeq o.dst)
  | .b2s x => fdrb i inc (fe x) (Zby o.op) (Zeq o.dst)
  | _ => bif Yb o.op then (bif lt && Zmw o.op then Zim i inc (Zby o.op) (Zeq o.dst) else Zfw i inc (Zby o.op) (Zeq o.dst)) else Zu (Zby o.op) (Zeq o.dst)
def Zfq : Nat → List (List Nat) → List CO → FD
  | _, _, [] => YZ
  | _, [], _ :: _ => fdbad
  | i, inc :: ZE, o :: r => match o.guard with
    | none => Z0x i inc (later i ZE) o (Zfq (i + 1) ZE r)
    | some (t, w) => Zsr (gF (t + 1) t) w (Z0x i inc (later i ZE) o) (Zeq o.dst) (Zfq (i + 1) ZE r)
theorem Zsq (E : Env) (call : Call) : ∀ (l : List CO) (i : Nat) (recs : List Rec) (ZE : List (List Nat)) (t : Tr D) (h : H), Ok (Zfq i ZE l E call recs t h) (Yp E call i recs ZE l (act t) h)
  | [], i, recs, ZE, t, h => by cases ZE <;> rfl
  | o :: r, i, recs, [], t, h => trivial
  | o :: r, i, recs, inc :: ZE, t, h => by
    have ih := fun recs t h => Zsq E call r (i + 1) recs ZE t h
    have key : ZA (act t) o = true → Ok (Z0x i inc (later i ZE) o (Zfq (i + 1) ZE r) E call recs t h) (Yp E call i recs (inc :: ZE) (o :: r) (act t) h) := by
      intro hw
      have rd : ∀ n x, Yr (act t) o.op = some ((act t).eval x, n) → Ok (Xj i inc n (fe x) (Zby o.op) (Zeq o.dst) (Zfq (i + 1) ZE r) E call recs t h) (Yp E call i recs (inc :: ZE) (o :: r) (act t) h) := by
        intro n x hr
        simp only [Xj, Zbt, Ze1, Zjx, Yp, hw, cond_true, U3]
        cases WA o.op E call (act t) h with
        | ok d h' =>
          simp only [hr, Ys]
          cases Zi h ((act t).eval x) n with
          | none => exact trivial
          | some cs =>
            simp only [Z1x]
            cases Xe inc ((act t).eval x) cs recs with
            | false => exact trivial
            | true => simp only [cond_true]; rw [← Zdc]; exact ih _ _ _
        | panic d h' => exact trivial
        | fail w => exact trivial
      have rb : ∀ x, Yr (act t) o.op = some (Zg9 ((act t).eval x)) → Ok (fdrb i inc (fe x) (Zby o.op) (Zeq o.dst) (Zfq (i + 1) ZE r) E call recs t h) (Yp E call i recs (inc :: ZE) (o :: r) (act t) h) := by
        intro x hr
        simp only [fdrb, Zbt, Ze1, Zjx, Yp, hw, cond_true, U3]
        cases WA o.op E call (act t) h with
        | ok d h' =>
          simp only [hr, Ys]
          cases Zi h (Zg9 ((act t).eval x)).1 (Zg9 ((act t).eval x)).2 with
          | none => exact trivial
          | some cs =>
            simp only [Z1x]
            cases Xe inc (Zg9 ((act t).eval x)).1 cs recs with
            | false => exact trivial
            | true => simp only [cond_true]; rw [← Zdc]; exact ih _ _ _
        | panic d h' => exact trivial
        | fail w => exact trivial
      have oth : Yr (act t) o.op = none → Ok ((bif Yb o.op then (bif later i ZE && Zmw o.op then Zim i inc (Zby o.op) (Zeq o.dst) else Zfw i inc (Zby o.op) (Zeq o.dst)) else Zu (Zby o.op) (Zeq o.dst)) (Zfq (i + 1) ZE r) E call recs t h) (Yp E call i recs (inc :: ZE) (o :: r) (act t) h) := by
        intro hr
        cases hl : Yb o.op with
        | true =>
          cases hb : later i ZE && Zmw o.op with
          | false =>
            simp only [cond_true, cond_false, Zfw, Zdp, Zjx, Yp, hw, U3]
            cases WA o.op E call (act t) h with
            | ok d h' =>
              simp only [hr, hl, cond_true]
              cases Yz inc h' recs with
              | false => exact trivial
              | true => simp only [cond_true]; rw [← Zdc]; exact ih _ _ _
            | panic d h' => exact trivial
            | fail w => exact trivial
          | true =>
            simp only [Bool.and_eq_true] at hb
            simp only [cond_true, Zim, Zdp, Zjx, Yp, hw, U3]
            cases WA o.op E call (act t) h with
            | ok d h' =>
              simp only [hr, hl, cond_true]
              cases Yz inc h' recs with
              | false => exact trivial
              | true => simp only [cond_true]; rw [← Zdc]; exact ih _ _ _
            | panic d h' =>
              have h0 : Zmv (act t).defers = true := rfl
              simp only [hl, hb.1, h0, Bool.true_or, Bool.and_self, cond_true]
              exact ⟨act t, rfl, rfl⟩
            | fail w => exact trivial
        | false =>
          simp only [cond_true, cond_false, Zu, Zjx, Yp, hw, U3]
          cases WA o.op E call (act t) h with
          | ok d h' => simp only [hr, hl, cond_false]; rw [← Zdc]; exact ih _ _ _
          | panic d h' => exact trivial
          | fail w => exact trivial
      obtain ⟨od, og, oo⟩ := o
      cases oo with
      | ld1 x => exact rd 1 x rfl
      | ldN n x => exact rd n x rfl
      | b2s x => exact rb x rfl
      | _ => exact oth rfl
    cases hg : o.guard with
    | none => simp only [Zfq, hg]; exact key (Zj7 hg)
    | some q =>
      obtain ⟨n, w⟩ := q
      simp only [Zfq, hg, Zsr]
      cases hw : wanted (gF (n + 1) n t) w with
      | true => simp only [cond_true]; exact key ((Zc4 hg).trans hw)
      | false =>
        have : ZA (act t) o = false := (Zc4 hg).trans hw
        simp only [cond_false, Yp, this]
        rw [← Zdc]; exact ih _ _ _
def ZJ : FC := fun E call n t h => Nat.rec (motive := fun _ => XT) (.fail "fuel") (fun _ _ => .out .normal t h) n
def WS (id : Nat) : FC := fun E call n t h => Nat.rec (motive := fun _ => XT) (.fail "fuel") (fun _ _ => .out (.exit id) t h) n
def ZF : FC := fun E call n t h => Nat.rec (motive := fun _ => XT) (.fail "fuel") (fun _ _ => .out .ret t h) n
def fbad : FC := fun E call n t h => .fail "bad"
def Z7 (r : FR) : FC := fun E call n t h => Nat.rec (motive := fun _ => XT) (.fail "fuel") (fun _ _ => r E call t h) n
def YY (r : FD) : FC := fun E call n t h => Nat.rec (motive := fun _ => XT) (.fail "fuel") (fun _ _ => r E call [] t h) n
def Z2 (x y : FC) : FC := fun E call n t h => Nat.rec (motive := fun _ => XT) (.fail "fuel") (fun n _ => XT.rec (motive := fun _ => XT) (fun e t h => AExit.rec (motive := fun _ => XT) (y E call n t h) (fun id => .out (.exit id) t h) (.out .ret t h) e) (fun d h => .panic d h) (fun w => .fail w) (x E call n t h)) n
def Zt (g : Tr D → D) (x y : FC) : FC := fun E call n t h => Nat.rec (motive := fun _ => XT) (.fail "fuel") (fun n _ => dBX (g t) (fun b => Bool.rec (motive := fun _ => XT) (y E call n t h) (x E call n t h) b) (.fail "cond")) n
def ZM (id : Nat) (x : FC) : FC := fun E call n t h => Nat.rec (motive := fun _ => XT) (.fail "fuel") (fun n _ => XT.rec (motive := fun _ => XT) (fun e t h => AExit.rec (motive := fun _ => XT) (.out .normal t h) (fun k => Bool.rec (motive := fun _ => XT) (.out (.exit k) t h) (.out .normal t h) (Nat.beq k id)) (.out .ret t h) e) (fun d h => .panic d h) (fun w => .fail w) (x E call n t h)) n
def Xi (x : FC) (E : Env) (call : Call) (n : Nat) : Tr D → H → XT := Nat.rec (motive := fun _ => Tr D → H → XT) (fun _ _ => .fail "fuel") (fun n ih t h => XT.rec (motive := fun _ => XT) (fun e t h => AExit.rec (motive := fun _ => XT) (ih t h) (fun k => .out (.exit k) t h) (.out .ret t h) e) (fun d h => .panic d h) (fun w => .fail w) (x E call n t h)) n
theorem Zfd (x : FC) (E : Env) (call : Call) (n : Nat) (t : Tr D) (h : H) : Xi x E call (n + 1) t h = XT.rec (motive := fun _ => XT) (fun e t h => AExit.rec (motive := fun _ => XT) (Xi x E call n t h) (fun k => .out (.exit k) t h) (.out .ret t h) e) (fun d h => .panic d h) (fun w => .fail w) (x E call n t h) := rfl
def XR : CC → FC
  | .skip => ZJ
  | .ops l => Z7 (Zmy l)
  | .draw inc l => YY (Zfq 0 inc l)
  | .seq a b => Z2 (XR a) (XR b)
  | .cond c a b => Zt (fe c) (XR a) (XR b)
  | .block id c => ZM id (XR c)
  | .loop c => Xi (XR c)
  | .exit id => WS id
  | .ret => ZF
  | .stop => fbad
  | .back .. => fbad
theorem Zin (E : Env) (call : Call) : ∀ (c : CC) (n : Nat) (t : Tr D) (h : H), Ok (XR c E call n t h) (Zw E call n c (act t) h) := by
  intro c
  induction c with
  | skip => intro n t h; cases n <;> first | trivial | rfl
  | ops l => intro n t h; cases n with
    | zero => trivial
    | succ n => exact Zp8 E call l t h
  | draw inc l => intro n t h; cases n with
    | zero => trivial
    | succ n => exact Zsq E call l 0 [] inc t h
  | seq a b iha ihb =>
    intro n t h
    cases n with
    | zero => trivial
    | succ n =>
      have h1 := iha n t h
      simp only [XR, Z2, Zw]
      cases hx : XR a E call n t h with
      | out e t' h' =>
        rw [hx] at h1
        have h1 : Zw E call n a (act t) h = .out e (act t') h' := h1
        rw [h1]
        cases e with
        | normal => exact ihb n t' h'
        | exit id => rfl
        | ret => rfl
      | panic d h' =>
        rw [hx] at h1
        obtain ⟨a', h2, h3⟩ := h1
        rw [h2]; exact ⟨a', rfl, h3⟩
      | fail w => trivial
  | cond c a b iha ihb =>
    intro n t h
    cases n with
    | zero => trivial
    | succ n =>
      simp only [XR, Zt, Zw, Ys]
      cases (act t).eval c <;> try trivial
      rename_i v
      cases v <;> try trivial
      rename_i b'
      cases b' with
      | true => exact iha n t h
      | false => exact ihb n t h
  | block id a iha =>
    intro n t h
    cases n with
    | zero => trivial
    | succ n =>
      have h1 := iha n t h
      simp only [XR, ZM, Zw]
      cases hx : XR a E call n t h with
      | out e t' h' =>
        rw [hx] at h1
        have h1 : Zw E call n a (act t) h = .out e (act t') h' := h1
        rw [h1]
        cases e with
        | normal => rfl
        | exit k => simp only []; cases Nat.beq k id <;> rfl
        | ret => rfl
      | panic d h' =>
        rw [hx] at h1
        obtain ⟨a', h2, h3⟩ := h1
        rw [h2]; exact ⟨a', rfl, h3⟩
      | fail w => trivial
  | loop a iha =>
    intro n
    induction n with
    | zero => intro t h; trivial
    | succ n ihn =>
      intro t h
      have h1 := iha n t h
      simp only [XR, Zfd, Zw]
      cases hx : XR a E call n t h with
      | out e t' h' =>
        rw [hx] at h1
        have h1 : Zw E call n a (act t) h = .out e (act t') h' := h1
        rw [h1]
        cases e with
        | normal => exact ihn t' h'
        | exit k => rfl
        | ret => rfl
      | panic d h' =>
        rw [hx] at h1
        obtain ⟨a', h2, h3⟩ := h1
        rw [h2]; exact ⟨a', rfl, h3⟩
      | fail w => trivial
  | exit id => intro n t h; cases n <;> first | trivial | rfl
  | ret => intro n t h; cases n <;> first | trivial | rfl
  | stop => intro n t h; trivial
  | back => intro n t h; trivial
abbrev Yd := Env → Nat → Call → List D → H → O D
def Z0s : List CRes → Tr D → H → O D
  | [] => fun t h => .ok (.tup []) h
  | [.t a] => fun t h => .ok (gF (a + 1) a t) h
  | [.t a, .t b] => fun t h => .ok (.tup [gF (a + 1) a t, gF (b + 1) b t]) h
  | [.t a, .t b, .t c] => fun t h => .ok (.tup [gF (a + 1) a t, gF (b + 1) b t, gF (c + 1) c t]) h
  | l => fun t h => VU ⟨l, .skip⟩ (act t) h
theorem geq (a : Nat) (t : Tr D) : gF (a + 1) a t = (act t).eval (.t a) := Ys (.t a) t
theorem Zv5 (l : List CRes) (c : CC) (t : Tr D) (h : H) : Z0s l t h = Uv ⟨l, c⟩ (act t) h := by
  unfold Z0s
  split <;> simp only [Zcg, Uv, YK, Zz1, geq]
def Zcw (i : Nat) (ss : List (D → Tr D → Tr D)) (xs : List D) (t : Tr D) : Tr D := List.rec (motive := fun _ => Nat → List (D → Tr D → Tr D) → Tr D → Tr D) (fun _ _ t => t) (fun x xs ih i ss t => List.rec (motive := fun _ => Tr D) (Tr.ofListFrom i (x :: xs) t) (fun s ss _ => ih (Nat.succ i) ss (s x t)) ss) xs i ss t
def Zq6 : Nat → Nat → List (D → Tr D → Tr D)
  | 0, _ => []
  | k + 1, i => pF (i + 1) i :: Zq6 k (i + 1)
theorem Zss : ∀ (xs : List D) (k i : Nat) (t : Tr D), Zcw i (Zq6 k i) xs t = Tr.ofListFrom i xs t
  | [], k, i, t => by cases k <;> rfl
  | x :: xs, 0, i, t => rfl
  | x :: xs, k + 1, i, t => by
    show Zcw (i + 1) (Zq6 k (i + 1)) xs (pF (i + 1) i x t) = _
    rw [Zss xs k (i + 1), Zog]; rfl
def Uz (ss : List (D → Tr D → Tr D)) (res : Tr D → H → O D) (body : FC) : Yd := fun E n call args h => XT.rec (motive := fun _ => O D) (fun e t h => AExit.rec (motive := fun _ => O D) (res t h) (fun _ => .fail "exit") (res t h) e) (fun d h => .panic d h) (fun w => .fail w) (body E call n (Zcw 0 ss args .nil) h)
def Zum (k : Nat) (c : CFn) : Yd := Uz (Zq6 k 0) (Z0s c.results) (XR c.body)
def Zdb (c : CFn) : Yd := fun E n call args h => match Zw E call n c.body (start args none) h with
  | .out e a h => match e with
    | .exit _ => .fail "exit"
    | _ => Ww E call n c none a h
  | .panic d a h => Ww E call n c (some d) a h
  | .fail w => .fail w
def Xb (g : List D → H → O D) : Yd := fun E n call args h => g args h
def ZY (E : Env) (T : Nat → Yd) (n : Nat) : Call := Nat.rec (motive := fun _ => Call) (fun f args h => .fail "fuel") (fun n ih f args h => T f E n ih args h) n
def Zc0 (o : O D) : Prop :=
  match o with
  | .fail _ => False
  | _ => True
theorem fcfn_ok (E : Env) (k : Nat) (c : CFn) (n : Nat) (call : Call) (args : List D) (h : H) (hn : Zc0 (Zum k c E n call args h)) : Zum k c E n call args h = Zdb c E n call args h := by
  have hs : start args none = act (Zcw 0 (Zq6 k 0) args .nil) := by rw [Zss]; rfl
  have h1 := Zin E call c.body n (Zcw 0 (Zq6 k 0) args .nil) h
  rw [← hs] at h1
  simp only [Zum, Uz, Zdb] at hn ⊢
  cases hx : XR c.body E call n (Zcw 0 (Zq6 k 0) args .nil) h with
  | out e t' h' =>
    rw [hx] at h1 hn
    have h1 : Zw E call n c.body (start args none) h = .out e (act t') h' := h1
    rw [h1]
    cases e with
    | normal => exact Zv5 c.results c.body t' h'
    | exit id => exact hn.elim
    | ret => exact Zv5 c.results c.body t' h'
  | panic d h' =>
    rw [hx] at h1
    obtain ⟨a', h2, h3⟩ := h1
    rw [h2]
    simp only [Ww, h3]
  | fail w => rw [hx] at hn; exact hn.elim
end
end Go.Abs
namespace Go.Abs
noncomputable section
def Zfj (call call' : Call) : Prop := ∀ f ds h, Zc0 (call f ds h) → call' f ds h = call f ds h
def Zbh (x : X) : Prop :=
  match x with
  | .fail _ => False
  | _ => True
section
variable {E : Env} {call call' : Call}
theorem Zuu (hb : Zfj call call') (f : D) (args : List D) (h : H) (hn : Zc0 (Zgm call f args h)) : Zgm call' f args h = Zgm call f args h := by
  unfold Zgm at hn ⊢
  split
  · exact hb _ _ _ hn
  · exact hb _ _ _ hn
  · rfl
theorem Zsz (hb : Zfj call call') (o : COp) (a : AAct) (h : H) (hn : Zc0 (WA o E call a h)) : WA o E call' a h = WA o E call a h := by
  cases o
  case call f args => exact Zuu hb _ _ _ hn
  all_goals rfl
theorem Ut (hb : Zfj call call') : ∀ (l : List CO) (a : AAct) (h : H), Zbh (Y9 E call l a h) → Y9 E call' l a h = Y9 E call l a h
  | [], a, h, hn => rfl
  | o :: r, a, h, hn => by
    simp only [Y9] at hn ⊢
    cases hw : ZA a o with
    | false =>
      simp only [hw, cond_false] at hn ⊢
      exact Ut hb r _ _ hn
    | true =>
      simp only [hw, cond_true] at hn ⊢
      have oth : ∀ op : COp, Zbh (match U3 E call a op h with
          | .ok d h => Y9 E call r (a.put o.dst d) h
          | .panic d h => .panic d a h
          | .fail w => .fail w) → (match U3 E call' a op h with
          | .ok d h => Y9 E call' r (a.put o.dst d) h
          | .panic d h => .panic d a h
          | .fail w => .fail w) = (match U3 E call a op h with
          | .ok d h => Y9 E call r (a.put o.dst d) h
          | .panic d h => .panic d a h
          | .fail w => .fail w) := by
        intro op hn
        unfold U3 at hn ⊢
        have hnf : Zc0 (WA op E call a h) := by
          cases hd : WA op E call a h with
          | ok d h' => trivial
          | panic d h' => trivial
          | fail w => rw [hd] at hn; exact hn.elim
        rw [Zsz hb op a h hnf]
        cases hd : WA op E call a h with
        | ok d h' => rw [hd] at hn; exact Ut hb r _ _ hn
        | panic d h' => rfl
        | fail w => rfl
      cases ho : o.op
      case dfr f =>
        simp only [ho] at hn ⊢
        split at hn
        · rename_i g x y he
          first
            | exact Ut hb r _ _ hn
            | (split <;> first | exact Ut hb r _ _ hn | rfl)
        · exact hn.elim
      all_goals
        simp only [ho] at hn ⊢
        rw [← ho] at hn ⊢
        exact oth o.op hn
theorem Zcz (hb : Zfj call call') : ∀ (l : List CO) (i : Nat) (recs : List Rec) (ZE : List (List Nat)) (a : AAct) (h : H), Zbh (Yp E call i recs ZE l a h) → Yp E call' i recs ZE l a h = Yp E call i recs ZE l a h
  | [], i, recs, ZE, a, h, hn => by cases ZE <;> rfl
  | o :: r, i, recs, [], a, h, hn => rfl
  | o :: r, i, recs, inc :: ZE, a, h, hn => by
    simp only [Yp] at hn ⊢
    cases hw : ZA a o with
    | false =>
      simp only [hw, cond_false] at hn ⊢
      exact Zcz hb r _ _ _ _ _ hn
    | true =>
      simp only [hw, cond_true] at hn ⊢
      unfold U3 at hn ⊢
      have hnf : Zc0 (WA o.op E call a h) := by
        cases hd : WA o.op E call a h with
        | ok d h' => trivial
        | panic d h' => trivial
        | fail w => rw [hd] at hn; exact hn.elim
      rw [Zsz hb o.op a h hnf]
      cases hd : WA o.op E call a h with
      | ok d h' =>
        simp only [hd] at hn ⊢
        cases hr : Yr a o.op with
        | some q =>
          obtain ⟨x, n⟩ := q
          simp only [hr] at hn ⊢
          cases hc : Zi h x n with
          | none => rfl
          | some cs =>
            simp only [hc] at hn ⊢
            cases hk : Xe inc x cs recs with
            | false => rfl
            | true => simp only [hk, cond_true] at hn ⊢; exact Zcz hb r _ _ _ _ _ hn
        | none =>
          simp only [hr] at hn ⊢
          cases hl : Yb o.op with
          | true =>
            simp only [hl, cond_true] at hn ⊢
            cases hk : Yz inc h' recs with
            | false => rfl
            | true => simp only [hk, cond_true] at hn ⊢; exact Zcz hb r _ _ _ _ _ hn
          | false => simp only [hl, cond_false] at hn ⊢; exact Zcz hb r _ _ _ _ _ hn
      | panic d h' => rfl
      | fail w => rfl
theorem Znk {run run' : AAct → H → X} (hr : ∀ a h, Zbh (run a h) → run' a h = run a h) (mk : Nat → D → AAct) (a : AAct) : ∀ (l : List (Nat × D)) (h : H), Zbh (Zix run mk a l h) → Zix run' mk a l h = Zix run mk a l h
  | [], h, hn => rfl
  | (i, d) :: r, h, hn => by
    simp only [Zix] at hn ⊢
    have hnf : Zbh (run (mk i d) h) := by
      cases hd : run (mk i d) h with
      | out e a h' => trivial
      | panic d h' => trivial
      | fail w => rw [hd] at hn; exact hn.elim
    rw [hr _ _ hnf]
    cases hd : run (mk i d) h with
    | out e a' h' =>
      rw [hd] at hn
      cases e with
      | normal => exact Znk hr mk a r h' hn
      | exit id => rfl
      | ret => rfl
    | panic d h' => rfl
    | fail w => rfl
theorem WZ (hb : Zfj call call') : ∀ (n : Nat) (c : CC) (a : AAct) (h : H), Zbh (Zw E call n c a h) → Zw E call' n c a h = Zw E call n c a h
  | 0, c, a, h, hn => rfl
  | n + 1, c, a, h, hn => by
    have nf : ∀ (c : CC) (a : AAct) (h : H) (k : X → X), (∀ w, k (.fail w) = .fail w) → Zbh (k (Zw E call n c a h)) → Zw E call' n c a h = Zw E call n c a h := fun c a h k hk hn => by
      refine WZ hb n c a h ?_
      cases hd : Zw E call n c a h with
      | out e a h' => trivial
      | panic d h' => trivial
      | fail w => rw [hd, hk] at hn; exact hn.elim
    cases c with
    | skip => rfl
    | ops l => exact Ut hb l a h hn
    | draw inc l => exact Zcz hb l 0 [] inc a h hn
    | seq x y =>
      simp only [Zw] at hn ⊢
      rw [nf x a h (fun r => match r with
        | .out .normal a h => Zw E call n y a h
        | r => r) (fun _ => rfl) hn]
      cases hd : Zw E call n x a h with
      | out e a' h' =>
        rw [hd] at hn
        cases e with
        | normal => exact WZ hb n y a' h' hn
        | exit id => rfl
        | ret => rfl
      | panic d h' => rfl
      | fail w => rfl
    | cond c x y =>
      simp only [Zw] at hn ⊢
      split
      · rename_i b he
        simp only [he] at hn
        cases b with
        | true => exact WZ hb n x a h hn
        | false => exact WZ hb n y a h hn
      · rfl
    | block id x =>
      simp only [Zw] at hn ⊢
      rw [nf x a h (fun r => match r with
        | .out (.exit k) a h => bif Nat.beq k id then .out .normal a h else .out (.exit k) a h
        | r => r) (fun _ => rfl) hn]
    | loop x =>
      simp only [Zw] at hn ⊢
      rw [nf x a h (fun r => match r with
        | .out .normal a h => Zw E call n (.loop x) a h
        | r => r) (fun _ => rfl) hn]
      cases hd : Zw E call n x a h with
      | out e a' h' =>
        rw [hd] at hn
        cases e with
        | normal => exact WZ hb n (.loop x) a' h' hn
        | exit id => rfl
        | ret => rfl
      | panic d h' => rfl
      | fail w => rfl
    | exit id => rfl
    | ret => rfl
    | stop => rfl
    | back ag size gs f x y assign body =>
      simp only [Zw] at hn ⊢
      split
      · rename_i gg p he
        simp only [he] at hn
        cases hm : Ye gg gs with
        | false => rfl
        | true =>
          simp only [hm, cond_true] at hn ⊢
          split
          · rename_i s hs
            simp only [hs] at hn
            split
            · rename_i k cs hk
              simp only [hk] at hn
              refine Znk (fun a h hn => ?_) _ a _ h hn
              rw [nf assign a h (fun r => match r with
                | .out .normal a h => Zw E call n body a h
                | r => r) (fun _ => rfl) hn]
              cases hd : Zw E call n assign a h with
              | out e a' h' =>
                rw [hd] at hn
                cases e with
                | normal => exact WZ hb n body a' h' hn
                | exit id => rfl
                | ret => rfl
              | panic d h' => rfl
              | fail w => rfl
            · rfl
          · rfl
      · rfl
theorem Zs4 (hb : Zfj call call') (n : Nat) (df : D) (r : Option D) (h h' : H) (hn : Zds E call n df r h = some h') : Zds E call' n df r h = some h' := by
  unfold Zds at hn ⊢
  split
  · split
    · rename_i g x y _ p hp
      simp only [hp] at hn
      have hnf : Zbh (Zw E call n p.2 ((start (x ++ y) none).put p.1 (Zjb r)) h) := by
        cases hd : Zw E call n p.2 ((start (x ++ y) none).put p.1 (Zjb r)) h with
        | out e a h' => trivial
        | panic d h' => trivial
        | fail w => rw [hd] at hn; cases hn
      rw [WZ hb n _ _ _ hnf]
      exact hn
    · rename_i hp; simp only [hp] at hn; cases hn
  · rename_i hno
    split at hn
    · rename_i g x y; exact absurd rfl (hno g x y)
    · cases hn
theorem Zgj (hb : Zfj call call') (n : Nat) (fn : CFn) (r : Option D) (a : AAct) (h : H) (hn : Zc0 (Ww E call n fn r a h)) : Ww E call' n fn r a h = Ww E call n fn r a h := by
  unfold Ww at hn ⊢
  split
  · rfl
  · rename_i df hd
    simp only [hd] at hn
    cases hc : Zds E call n df r h with
    | none => simp only [hc] at hn; exact hn.elim
    | some h' => rw [Zs4 hb n df r h h' hc]
  · rfl
end
def Zgl (E : Env) (n : Nat) (call : Call) (f : Nat) (args : List D) (h : H) : O D :=
  match E.lib f with
  | some g => g args h
  | none => match E.fns f with
    | none => .fail ("no function " ++ toString f)
    | some fn => Zdb fn E n call args h
theorem Zus (E : Env) (n f : Nat) (args : List D) (h : H) : Zb4 E (n + 1) f args h = Zgl E n (Zb4 E n) f args h := by
  simp only [Zb4, Zgl, Zdb]
  cases E.lib f with
  | some g => rfl
  | none => cases E.fns f with
    | none => rfl
    | some fn =>
      simp only []
      cases Zw E (Zb4 E n) n fn.body (start args none) h <;> rfl
theorem Zuh {E : Env} {call call' : Call} (hb : Zfj call call') (fn : CFn) (n : Nat) (args : List D) (h : H) (hn : Zc0 (Zdb fn E n call args h)) : Zdb fn E n call' args h = Zdb fn E n call args h := by
  unfold Zdb at hn ⊢
  have hnf : Zbh (Zw E call n fn.body (start args none) h) := by
    cases hd : Zw E call n fn.body (start args none) h with
    | out e a h' => trivial
    | panic d h' => trivial
    | fail w => rw [hd] at hn; exact hn.elim
  rw [WZ hb n _ _ _ hnf]
  cases hd : Zw E call n fn.body (start args none) h with
  | out e a h' =>
    rw [hd] at hn
    cases e with
    | normal => exact Zgj hb n fn none a h' hn
    | exit id => rfl
    | ret => exact Zgj hb n fn none a h' hn
  | panic d a h' => rw [hd] at hn; exact Zgj hb n fn (some d) a h' hn
  | fail w => rfl
theorem Zut {E : Env} {call call' : Call} (hb : Zfj call call') (n f : Nat) (args : List D) (h : H) (hn : Zc0 (Zgl E n call f args h)) : Zgl E n call' f args h = Zgl E n call f args h := by
  unfold Zgl at hn ⊢
  split
  · rfl
  · split
    · rfl
    · rename_i h1 _ fn h2
      simp only [h1, h2] at hn
      exact Zuh hb fn n args h hn
def Zu2 (E : Env) (k : Nat) (q : Yd) : Prop := ∀ n call args h, Zc0 (q E n call args h) → q E n call args h = Zgl E n call k args h
def Zzq : Yd := fun E n call args h => .fail "no function"
def Tab (E : Env) (T : Nat → Yd) : Prop := ∀ f, Zu2 E f (T f)
theorem Zxj (E : Env) (k : Nat) : Zu2 E k Zzq := fun n call args h hn => hn.elim
theorem Z0l {E : Env} {k : Nat} {g : List D → H → O D} (hl : E.lib k = some g) : Zu2 E k (Xb g) := fun n call args h hn => by
  simp only [Xb, Zgl, hl]
theorem Zxi {E : Env} {k : Nat} {q : Yd} (hl : E.lib k = none) (hq : (E.fns k).map Zdb = some q) : Zu2 E k q := fun n call args h hn => by
  cases hf : E.fns k with
  | none => rw [hf] at hq; cases hq
  | some fn =>
    rw [hf] at hq
    cases hq
    simp only [Zgl, hl, hf]
theorem Zxk {E : Env} {k m : Nat} {q : Yd} (hl : E.lib k = none) (hq : (E.fns k).map (Zum m) = some q) : Zu2 E k q := fun n call args h hn => by
  cases hf : E.fns k with
  | none => rw [hf] at hq; cases hq
  | some fn =>
    rw [hf] at hq
    cases hq
    simp only [Zgl, hl, hf]
    exact fcfn_ok E m fn n call args h hn
theorem Zio {E : Env} {T : Nat → Yd} (ht : Tab E T) : ∀ n f args h, Zc0 (ZY E T n f args h) → Zb4 E n f args h = ZY E T n f args h
  | 0, f, args, h, hn => hn.elim
  | n + 1, f, args, h, hn => by
    have h1 : ZY E T (n + 1) f args h = Zgl E n (ZY E T n) f args h := ht f n (ZY E T n) args h hn
    rw [h1] at hn
    rw [Zus, h1]
    exact Zut (fun f ds h hn => Zio ht n f ds h hn) n f args h hn
def Zm0 (P : Program) (glob : Nat → Option (List D)) (f : Nat) : Option CFn :=
  match P.funcs[f]? with
  | some fn => bif fn.name == "runtime.NumGoroutine" then none else cfn P glob none fn
  | none => none
def Zun (P : Program) (glob : Nat → Option (List D)) (f : Nat) : Option (Option Nat × CC) :=
  match P.funcs[f]? with
  | some fn => bif fn.name == "runtime.NumGoroutine" then none else cdfr P glob fn
  | none => none
def Zhh (P : Program) (glob : Nat → Option (List D)) (lib : Nat → Option (List D → H → O D)) : Env := ⟨P, Zm0 P glob, lib, Zun P glob⟩
theorem told (P : Program) (glob : Nat → Option (List D)) (lib : Nat → Option (List D → H → O D)) (ho : P.follows .mixedOrders = true) (hlib : ∀ f lf, lib f = some lf → ZS P f lf glob) (hgrow : ∀ f lf, lib f = some lf → ∀ ds h, Xc h (lf ds h)) :
    Told P glob (Zhh P glob lib) where
  prog := rfl
  orders := ho
  fns := fun f cf hf => by
    have hf : Zm0 P glob f = some cf := hf
    unfold Zm0 at hf
    split at hf
    · rename_i fn hfn
      cases hn : fn.name == "runtime.NumGoroutine" with
      | true => rw [hn] at hf; cases hf
      | false =>
        rw [hn] at hf
        exact ⟨fn, none, hfn, hn, hf, Ziv⟩
    · cases hf
  dfrs := fun f p hf => by
    have hf : Zun P glob f = some p := hf
    unfold Zun at hf
    split at hf
    · rename_i fn hfn
      cases hn : fn.name == "runtime.NumGoroutine" with
      | true => rw [hn] at hf; cases hf
      | false =>
        rw [hn] at hf
        exact ⟨fn, hfn, hn, hf⟩
    · cases hf
  lib := hlib
  libgrow := hgrow
end
end Go.Abs
namespace Go.Abs
noncomputable section
open Go.RowKit
def gTop (glob : Nat → Option (List D)) : G := { blk := fun _ => none, sl := fun _ _ => none, own := fun _ => none, imm := fun b o => match glob b with
  | some cs => cs[o]?
  | none => none }
def Holds (glob : Nat → Option (List D)) (w : World) : Prop := ∀ b cs o d, glob b = some cs → cs[o]? = some d → ∃ v, w.cell? ⟨b, o, none⟩ = some v ∧ ∀ g, VRel g d v
def Zcf : H := ⟨1, .nil⟩
theorem r0 {P : Program} {glob : Nat → Option (List D)} {w : World} (hg : Holds glob w) {top : Nat} (ht : 1 ≤ top) : R P top (gTop glob) Zcf w where
  obj := fun l o ho => by cases ho
  tip := fun id n e ho => by cases ho
  imm := fun b o d hd => by
    simp only [gTop] at hd
    split at hd
    · rename_i cs hc
      obtain ⟨v, hv, hr⟩ := hg b cs o d hc hd
      exact ⟨v, hv, hr _⟩
    · cases hd
  blkown := fun l b hb => by cases hb
  slown := fun id n b cap hb => by cases hb
  name := fun l _ _ => ⟨rfl, fun _ => rfl, fun b hb => by cases hb⟩
  dom := fun l _ => rfl
  le := ht
  block := fun _ _ => rfl
  pos := ⟨Nat.zero_lt_one, rfl⟩
  slblk := fun id n p hp => by cases hp
  ownk := fun b l hb => by cases hb
end
end Go.Abs
