/- The reckoner's code made quick: closures in the place of tables. -/
import Derived.Test.YtlkjicigmhhjbaaGreatDoorNdRun
import Derived.Test.YtlkjicigmhhjbaaGreatDoorNdLib
set_option linter.unusedVariables false
set_option linter.unusedSimpArgs false
namespace Go.Abs
noncomputable section
def act (t : Tr D) : AAct := ⟨t, [], none, false⟩
def gV (t : Tr D) : D := Tr.rec (motive := fun _ => D) Zj (fun _ v _ _ _ => Option.rec (motive := fun _ => D) Zj (fun d => d) v) t
def gL (k : Tr D → D) (t : Tr D) : D := Tr.rec (motive := fun _ => D) Zj (fun l _ _ _ _ => k l) t
def gR (k : Tr D → D) (t : Tr D) : D := Tr.rec (motive := fun _ => D) Zj (fun _ _ r _ _ => k r) t
def g0 (_ : Tr D) : D := Zj
def gF : Nat → Nat → Tr D → D
  | 0, _ => g0
  | f + 1, n => bif Nat.beq n 0 then gV else bif Nat.beq (n % 2) 1 then gL (gF f (n / 2)) else gR (gF f (n / 2 - 1))
def Z52 (o : Option D) : D :=
  match o with
  | some d => d
  | none => Zj
theorem Zsg : ∀ (f n : Nat) (t : Tr D), n < f → gF f n t = Z52 (t.get n)
  | 0, n, t, h => by omega
  | f + 1, n, t, h => by
    by_cases h0 : n = 0
    · subst h0
      cases t with
      | nil => rfl
      | node l v r => cases v <;> rfl
    · have hb : Nat.beq n 0 = false := by cases hb : Nat.beq n 0 with
        | false => rfl
        | true => exact absurd (Nat.eq_of_beq_eq_true hb) h0
      cases hm : Nat.beq (n % 2) 1 with
      | true =>
        simp only [gF, hb, hm, cond_true, cond_false]
        cases t with
        | nil => rfl
        | node l v r =>
          simp only [gL, Tr.get, hb, hm, cond_true, cond_false]
          exact Zsg f (n / 2) l (by omega)
      | false =>
        simp only [gF, hb, hm, cond_false]
        cases t with
        | nil => rfl
        | node l v r =>
          simp only [gR, Tr.get, hb, hm, cond_false]
          exact Zsg f (n / 2 - 1) r (by omega)
def kD (d : D) (_ : Tr D) : D := d
def fe : Opd → Tr D → D
  | .t n => gF (n + 1) n
  | .d d => kD d
theorem X1 (x : Opd) (t : Tr D) : fe x t = (act t).eval x := by
  cases x with
  | t n => exact Zsg (n + 1) n t (Nat.lt_succ_self n)
  | d d => rfl
def pV (v : D) (t : Tr D) : Tr D := Tr.rec (motive := fun _ => Tr D) (.node .nil (some v) .nil) (fun l _ r _ _ => .node l (some v) r) t
def pL (k : D → Tr D → Tr D) (v : D) (t : Tr D) : Tr D := Tr.rec (motive := fun _ => Tr D) (.node (k v .nil) none .nil) (fun l u r _ _ => .node (k v l) u r) t
def pR (k : D → Tr D → Tr D) (v : D) (t : Tr D) : Tr D := Tr.rec (motive := fun _ => Tr D) (.node .nil none (k v .nil)) (fun l u r _ _ => .node l u (k v r)) t
def p0 (_ : D) (t : Tr D) : Tr D := t
def pF : Nat → Nat → D → Tr D → Tr D
  | 0, _ => p0
  | f + 1, n => bif Nat.beq n 0 then pV else bif Nat.beq (n % 2) 1 then pL (pF f (n / 2)) else pR (pF f (n / 2 - 1))
theorem Zr7 : ∀ (f n : Nat) (v : D) (t : Tr D), pF f n v t = Tr.setF f t n (some v)
  | 0, n, v, t => by cases t <;> rfl
  | f + 1, n, v, t => by
    cases hb : Nat.beq n 0 with
    | true => simp only [pF, hb, cond_true]; cases t <;> simp only [pV, Tr.setF, hb, cond_true]
    | false => cases hm : Nat.beq (n % 2) 1 with
      | true =>
        simp only [pF, hb, hm, cond_true, cond_false]
        cases t <;> simp only [pL, Tr.setF, hb, hm, cond_true, cond_false, Zr7 f]
      | false =>
        simp only [pF, hb, hm, cond_false]
        cases t <;> simp only [pR, Tr.setF, hb, hm, cond_false, Zr7 f]
def Zfh : Option Nat → D → Tr D → Tr D
  | none => p0
  | some n => pF (n + 1) n
theorem Zc6 (dst : Option Nat) (d : D) (t : Tr D) : act (Zfh dst d t) = (act t).put dst d := by
  cases dst with
  | none => rfl
  | some n => simp only [Zfh, AAct.put, act, Tr.set, Zr7]
def Zkv (gs : List (Tr D → D)) (t : Tr D) : List D := List.rec (motive := fun _ => List D) [] (fun g _ ih => g t :: ih) gs
theorem Ztq (l : List Opd) (t : Tr D) : Zkv (l.map fe) t = (act t).evals l := by
  induction l with
  | nil => rfl
  | cons x r ih =>
    show fe x t :: Zkv (r.map fe) t = _
    rw [ih, X1]; rfl
def Zt5 (k : Tr AObj → Nat → Option AObj) (t : Tr AObj) (n : Nat) : Option AObj :=
  Tr.rec (motive := fun _ => (Tr AObj → Nat → Option AObj) → Nat → Option AObj) (fun _ _ => none)
    (fun l v r _ _ k n => Bool.rec (motive := fun _ => Tr AObj → Option AObj → Tr AObj → (Tr AObj → Nat → Option AObj) → Nat → Option AObj)
      (fun l _ r k n => Bool.rec (motive := fun _ => Tr AObj → Tr AObj → (Tr AObj → Nat → Option AObj) → Nat → Option AObj) (fun _ r k n => k r (Nat.sub (Nat.div n 2) 1)) (fun l _ k n => k l (Nat.div n 2)) (Nat.beq (Nat.mod n 2) 1) l r k n)
      (fun _ v _ _ _ => v) (Nat.beq n 0) l v r k n) t k n
theorem U3 {k : Tr AObj → Nat → Option AObj} (hk : ∀ t n, k t n = t.get n) (t : Tr AObj) (n : Nat) : Zt5 k t n = t.get n := by
  cases t with
  | nil => rfl
  | node l v r =>
    have e : Nat.beq (n % 2) 1 = Nat.beq (Nat.mod n 2) 1 := rfl
    have e1 : k l (Nat.div n 2) = l.get (n / 2) := hk ..
    have e2 : k r (Nat.sub (Nat.div n 2) 1) = r.get (n / 2 - 1) := hk ..
    cases hb : Nat.beq n 0 with
    | true => simp only [Zt5, Tr.get, hb, cond_true]
    | false =>
      cases hm : Nat.beq (Nat.mod n 2) 1 with
      | true => simp only [Zt5, Tr.get, hb, hm, e, cond_true, cond_false, e1]
      | false => simp only [Zt5, Tr.get, hb, hm, e, cond_false, e2]
def hg0 : Tr AObj → Nat → Option AObj := Zt5 Tr.get
def hg1 : Tr AObj → Nat → Option AObj := Zt5 hg0
def hg2 : Tr AObj → Nat → Option AObj := Zt5 hg1
def hg3 : Tr AObj → Nat → Option AObj := Zt5 hg2
def hg4 : Tr AObj → Nat → Option AObj := Zt5 hg3
def hg5 : Tr AObj → Nat → Option AObj := Zt5 hg4
def hg6 : Tr AObj → Nat → Option AObj := Zt5 hg5
def hg7 : Tr AObj → Nat → Option AObj := Zt5 hg6
def hg8 : Tr AObj → Nat → Option AObj := Zt5 hg7
def hg9 : Tr AObj → Nat → Option AObj := Zt5 hg8
def hg10 : Tr AObj → Nat → Option AObj := Zt5 hg9
def hg11 : Tr AObj → Nat → Option AObj := Zt5 hg10
def hg12 : Tr AObj → Nat → Option AObj := Zt5 hg11
def hget : Tr AObj → Nat → Option AObj := Zt5 hg12
theorem Xh (t : Tr AObj) (n : Nat) : hget t n = t.get n :=
  U3 (U3 (U3 (U3 (U3 (U3 (U3 (U3 (U3 (U3 (U3 (U3 (U3 (U3 fun _ _ => rfl))))))))))))) t n
def Zse (k : Nat → Tr AObj → Nat → AObj → Tr AObj) (f : Nat) (t : Tr AObj) (n : Nat) (v : AObj) : Tr AObj :=
  Tr.rec (motive := fun _ => (Nat → Tr AObj → Nat → AObj → Tr AObj) → Nat → Nat → AObj → Tr AObj)
    (fun k f n v => Bool.rec (motive := fun _ => (Nat → Tr AObj → Nat → AObj → Tr AObj) → Nat → Nat → AObj → Tr AObj)
      (fun k f n v => Bool.rec (motive := fun _ => (Nat → Tr AObj → Nat → AObj → Tr AObj) → Nat → Nat → AObj → Tr AObj) (fun k f n v => .node .nil none (k (Nat.sub f 1) .nil (Nat.sub (Nat.div n 2) 1) v)) (fun k f n v => .node (k (Nat.sub f 1) .nil (Nat.div n 2) v) none .nil) (Nat.beq (Nat.mod n 2) 1) k f n v)
      (fun _ _ _ v => .node .nil (some v) .nil) (Nat.beq n 0) k f n v)
    (fun l u r _ _ k f n v => Bool.rec (motive := fun _ => Tr AObj → Option AObj → Tr AObj → (Nat → Tr AObj → Nat → AObj → Tr AObj) → Nat → Nat → AObj → Tr AObj)
      (fun l u r k f n v => Bool.rec (motive := fun _ => Tr AObj → Option AObj → Tr AObj → (Nat → Tr AObj → Nat → AObj → Tr AObj) → Nat → Nat → AObj → Tr AObj) (fun l u r k f n v => .node l u (k (Nat.sub f 1) r (Nat.sub (Nat.div n 2) 1) v)) (fun l u r k f n v => .node (k (Nat.sub f 1) l (Nat.div n 2) v) u r) (Nat.beq (Nat.mod n 2) 1) l u r k f n v)
      (fun l _ r _ _ _ v => .node l (some v) r) (Nat.beq n 0) l u r k f n v) t k f n v
def hpOk (k : Nat → Tr AObj → Nat → AObj → Tr AObj) : Prop := ∀ f t n v, n < f → k f t n v = Tr.setF f t n (some v)
theorem U2 {k : Nat → Tr AObj → Nat → AObj → Tr AObj} (hk : hpOk k) : hpOk (Zse k) := by
  intro f t n v hn
  obtain ⟨f, rfl⟩ : ∃ m, f = m + 1 := ⟨f - 1, by omega⟩
  cases hb : Nat.beq n 0 with
  | true => cases t <;> simp only [Zse, Tr.setF, hb, cond_true]
  | false =>
    have h0 : n ≠ 0 := fun e => by subst e; cases hb
    have h1 : k f .nil (Nat.div n 2) v = Tr.setF f .nil (n / 2) (some v) := hk f .nil (n / 2) v (by omega)
    have h2 : k f .nil (Nat.sub (Nat.div n 2) 1) v = Tr.setF f .nil (n / 2 - 1) (some v) := hk f .nil (n / 2 - 1) v (by omega)
    have hf : Nat.sub (f + 1) 1 = f := rfl
    cases hm : Nat.beq (n % 2) 1 with
    | true =>
      have hm' : Nat.beq (Nat.mod n 2) 1 = true := hm
      cases t with
      | nil => simp only [Zse, Tr.setF, hb, hm, hm', cond_true, cond_false, hf, h1]
      | node l u r =>
        have h3 : k f l (Nat.div n 2) v = Tr.setF f l (n / 2) (some v) := hk f l (n / 2) v (by omega)
        simp only [Zse, Tr.setF, hb, hm, hm', cond_true, cond_false, hf, h3]
    | false =>
      have hm' : Nat.beq (Nat.mod n 2) 1 = false := hm
      cases t with
      | nil => simp only [Zse, Tr.setF, hb, hm, hm', cond_false, hf, h2]
      | node l u r =>
        have h3 : k f r (Nat.sub (Nat.div n 2) 1) v = Tr.setF f r (n / 2 - 1) (some v) := hk f r (n / 2 - 1) v (by omega)
        simp only [Zse, Tr.setF, hb, hm, hm', cond_false, hf, h3]
def hpE (f : Nat) (t : Tr AObj) (n : Nat) (v : AObj) : Tr AObj := Tr.setF f t n (some v)
def hp0 := Zse hpE
def hp1 := Zse hp0
def hp2 := Zse hp1
def hp3 := Zse hp2
def hp4 := Zse hp3
def hp5 := Zse hp4
def hp6 := Zse hp5
def hp7 := Zse hp6
def hp8 := Zse hp7
def hp9 := Zse hp8
def hp10 := Zse hp9
def hp11 := Zse hp10
def hp12 := Zse hp11
def hset (t : Tr AObj) (n : Nat) (v : AObj) : Tr AObj := Zse hp12 (Nat.add n 1) t n v
theorem Zhh (t : Tr AObj) (n : Nat) (v : AObj) : hset t n v = t.set n (some v) :=
  U2 (U2 (U2 (U2 (U2 (U2 (U2 (U2 (U2 (U2 (U2 (U2 (U2 (U2 (fun _ _ _ _ _ => rfl)))))))))))))) _ _ _ _ (Nat.lt_succ_self n)
def Wq (h : H) (l : Nat) (o : AObj) : H := ⟨h.next, hset h.mem l o⟩
theorem Zd1 (h : H) (l : Nat) (o : AObj) : Wq h l o = h.put l o := by simp only [Wq, H.put, Zhh]
def WJ (h : H) (o : AObj) : H := ⟨Nat.add h.next 1, hset h.mem h.next o⟩
theorem Zac (h : H) (o : AObj) : h.new o = (h.next, WJ h o) := by simp only [WJ, H.new, Zhh]
end
end Go.Abs
namespace Go.Abs
noncomputable section
section
variable {α β : Type}
def VN (l : List α) (k : α → List α → β) (z : β) : β := List.rec (motive := fun _ => β) z (fun a r _ => k a r) l
def c8 (l : List α) (k : List α → β) (z : β) : β :=
  List.rec (motive := fun _ => β) z (fun _ r _ => List.rec (motive := fun _ => β) z (fun _ r _ => List.rec (motive := fun _ => β) z (fun _ r _ => List.rec (motive := fun _ => β) z (fun _ r _ =>
  List.rec (motive := fun _ => β) z (fun _ r _ => List.rec (motive := fun _ => β) z (fun _ r _ => List.rec (motive := fun _ => β) z (fun _ r _ => List.rec (motive := fun _ => β) z (fun _ r _ => k r) r) r) r) r) r) r) r) l
theorem c8_eq (l : List α) (k : List α → β) (z : β) : c8 l k z = if 8 ≤ l.length then k (l.drop 8) else z := by
  rcases l with _ | ⟨_, _ | ⟨_, _ | ⟨_, _ | ⟨_, _ | ⟨_, _ | ⟨_, _ | ⟨_, _ | ⟨_, l⟩⟩⟩⟩⟩⟩⟩⟩
  all_goals first
    | rfl
    | (show k l = _; rw [if_pos (by simp only [List.length_cons]; omega)]; rfl)
def Z5r (l : List α) : Nat → Nat := List.rec (motive := fun _ => Nat → Nat) (fun a => a) (fun _ _ ih a => ih (Nat.succ a)) l
theorem Zgp : ∀ (l : List α) (a : Nat), Z5r l a = a + l.length
  | [], a => rfl
  | _ :: r, a => (Zgp r (Nat.succ a)).trans (by simp only [List.length_cons]; omega)
def lnN (n : Nat) : List α → Nat → Nat := Nat.rec (motive := fun _ => List α → Nat → Nat) Z5r (fun _ ih l a => c8 l (fun r => ih r (Nat.add a 8)) (Z5r l a)) n
theorem Z5s : ∀ (n : Nat) (l : List α) (a : Nat), lnN n l a = a + l.length
  | 0, l, a => Zgp l a
  | n + 1, l, a => by
    show c8 l (fun r => lnN n r (Nat.add a 8)) (Z5r l a) = _
    rw [c8_eq, Zgp]
    split
    · rw [Z5s n]
      show (a + 8) + _ = _
      rw [List.length_drop]; omega
    · rfl
def Zt4 (l : List α) : Nat := lnN 100000 l 0
theorem Zlx (l : List α) : Zt4 l = l.length := by rw [Zt4, Z5s]; omega
def dpR (n : Nat) : List α → List α := Nat.rec (motive := fun _ => List α → List α) (fun l => l) (fun _ ih l => List.rec (motive := fun _ => List α) [] (fun _ r _ => ih r) l) n
theorem Zl3 : ∀ (n : Nat) (l : List α), dpR n l = l.drop n
  | 0, l => rfl
  | n + 1, [] => rfl
  | n + 1, _ :: r => Zl3 n r
def dp8 (n : Nat) : List α → List α := Nat.rec (motive := fun _ => List α → List α) (fun l => l) (fun _ ih l => c8 l ih []) n
theorem Z6e : ∀ (n : Nat) (l : List α), dp8 n l = l.drop (8 * n)
  | 0, l => rfl
  | n + 1, l => by
    show c8 l (dp8 n) [] = _
    rw [c8_eq]
    split
    · rw [Z6e n, List.drop_drop]; congr 1; omega
    · rw [List.drop_eq_nil_of_le (by omega)]
def Z2m (n : Nat) (l : List α) : List α := bif Nat.ble n 15 then dpR n l else dpR (Nat.mod n 8) (dp8 (Nat.div n 8) l)
theorem Zjm (n : Nat) (l : List α) : Z2m n l = l.drop n := by
  unfold Z2m
  rw [Zl3, Zl3, Z6e, List.drop_drop]
  cases Nat.ble n 15 with
  | true => rfl
  | false =>
    show List.drop (8 * (n / 8) + n % 8) l = _
    congr 1; omega
def tkF (n : Nat) : List α → List α := Nat.rec (motive := fun _ => List α → List α) (fun _ => []) (fun _ ih l => List.rec (motive := fun _ => List α) [] (fun a r _ => a :: ih r) l) n
theorem Z3h : ∀ (n : Nat) (l : List α), tkF n l = l.take n
  | 0, l => rfl
  | n + 1, [] => rfl
  | n + 1, a :: r => congrArg (a :: ·) (Z3h n r)
def apF (l m : List α) : List α := List.rec (motive := fun _ => List α) m (fun a _ ih => a :: ih) l
theorem Zqf : ∀ (l m : List α), apF l m = l ++ m
  | [], m => rfl
  | a :: r, m => congrArg (a :: ·) (Zqf r m)
def Z6v (n : Nat) : List α → Option (List α) := Nat.rec (motive := fun _ => List α → Option (List α)) (fun _ => some []) (fun _ ih l => List.rec (motive := fun _ => Option (List α)) none (fun a r _ => Option.rec (motive := fun _ => Option (List α)) none (fun s => some (a :: s)) (ih r)) l) n
theorem Zjl : ∀ (n : Nat) (l : List α), Z6v n l = bif Nat.beq (l.take n).length n then some (l.take n) else none
  | 0, l => rfl
  | n + 1, [] => rfl
  | n + 1, a :: r => by
    show Option.rec (motive := fun _ => Option (List α)) none (fun s => some (a :: s)) (Z6v n r) = _
    rw [Zjl n r]
    show _ = bif Nat.beq (r.take n).length n then some (a :: r.take n) else none
    cases Nat.beq (r.take n).length n <;> rfl
def ovF (xs : List α) : List α → Option (List α) := List.rec (motive := fun _ => List α → Option (List α)) (fun cs => some cs) (fun x _ ih cs => List.rec (motive := fun _ => Option (List α)) none (fun _ r _ => Option.rec (motive := fun _ => Option (List α)) none (fun s => some (x :: s)) (ih r)) cs) xs
theorem Z5c : ∀ (xs cs : List α), ovF xs cs = bif Nat.ble xs.length cs.length then some (xs ++ cs.drop xs.length) else none
  | [], cs => by
    have : Nat.ble ([] : List α).length cs.length = true := by rw [Nat.ble_eq]; exact Nat.zero_le _
    rw [this]; rfl
  | x :: xs, [] => rfl
  | x :: xs, c :: cs => by
    show Option.rec (motive := fun _ => Option (List α)) none (fun s => some (x :: s)) (ovF xs cs) = _
    rw [Z5c xs cs]
    show _ = bif Nat.ble xs.length cs.length then some (x :: (xs ++ cs.drop xs.length)) else none
    cases Nat.ble xs.length cs.length <;> rfl
def paF (off : Nat) : List α → List α → Option (List α) := Nat.rec (motive := fun _ => List α → List α → Option (List α)) (fun xs cs => ovF xs cs) (fun _ ih xs cs => List.rec (motive := fun _ => Option (List α)) none (fun c r _ => Option.rec (motive := fun _ => Option (List α)) none (fun s => some (c :: s)) (ih xs r)) cs) off
end
theorem Zs9 : ∀ (off : Nat) (xs cs : List D), paF off xs cs = patch cs off xs
  | 0, xs, cs => by
    show ovF xs cs = _
    rw [Z5c, patch]
    simp only [Nat.zero_add, List.take_zero, List.nil_append]
  | off + 1, xs, [] => by
    show none = _
    rw [patch, show Nat.ble (off + 1 + xs.length) ([] : List D).length = false from by
      cases h : Nat.ble (off + 1 + xs.length) ([] : List D).length with
      | false => rfl
      | true => have := Nat.le_of_ble_eq_true h; simp only [List.length_nil] at this; omega]
    rfl
  | off + 1, xs, c :: cs => by
    show Option.rec (motive := fun _ => Option (List D)) none (fun s => some (c :: s)) (paF off xs cs) = _
    rw [Zs9 off xs cs, patch, patch]
    rw [show off + 1 + xs.length = (off + xs.length) + 1 by omega]
    show _ = bif Nat.ble (off + xs.length) cs.length then some ((c :: cs.take off ++ xs) ++ cs.drop (off + xs.length)) else none
    cases Nat.ble (off + xs.length) cs.length <;> rfl
def oneV (x : Value) : Bool := Value.rec (motive_1 := fun _ => Bool) (motive_2 := fun _ => Unit) (motive_3 := fun _ => Unit) (fun _ => true) (fun _ _ => true) (fun _ _ => true) (fun _ _ _ => true) (fun _ => true) (fun _ => true) (fun _ _ _ => true) (fun _ => true) (fun _ => true) (fun _ _ _ _ _ => true) true (fun _ _ _ => true) true (fun _ _ => false) (fun _ _ => false) (fun _ _ => ()) () (fun _ _ _ _ => ()) x
def oneQ (d : D) : Bool := D.rec (motive_1 := fun _ => Bool) (motive_2 := fun _ => Unit) (fun x => oneV x) (fun _ _ => true) (fun _ => true) (fun _ _ => true) (fun _ _ => true) (fun _ _ _ _ => true) (fun _ _ _ _ => true) (fun _ => true) (fun _ _ => false) (fun _ _ => false) (fun _ _ _ _ _ => true) (fun _ _ _ => true) () (fun _ _ _ _ => ()) d
theorem Z8v (d : D) : oneQ d = d.one := by
  cases d <;> try rfl
  rename_i x
  cases x <;> rfl
def cellsV (x : Value) : List D := Value.rec (motive_1 := fun _ => List D) (motive_2 := fun _ => Unit) (motive_3 := fun _ => Unit) (fun b => [.v (.bool b)]) (fun k n => [.v (.int k n)]) (fun k n => [.v (.float k n)]) (fun k a b => [.v (.complex k a b)]) (fun s => [.v (.string s)]) (fun a => [.v (.pointer a)]) (fun a l c => [.v (.slice a l c)]) (fun r => [.v (.map r)]) (fun r => [.v (.chan r)]) (fun f a b _ _ => [.v (.func f a b)]) [.v .nilFunc] (fun t v _ => [.v (.iface t v)]) [.v .nilIface] (fun cs _ => cs.toList.map .v) (fun l _ => [.v (.tuple l)]) (fun _ _ => ()) () (fun _ _ _ _ => ()) x
def Zl4 (d : D) : List D := D.rec (motive_1 := fun _ => List D) (motive_2 := fun _ => Unit) (fun x => cellsV x) (fun k n => [.int k n]) (fun l => [.str l]) (fun l o => [.ptr l o]) (fun c _ => [.ep c]) (fun i n c _ => [.sl i n c]) (fun l o n c => [.row l o n c]) (fun l => [.map l]) (fun c _ => c) (fun c _ => [.tup c]) (fun f a b _ _ => [.func f a b]) (fun t d _ => [.iface t d]) () (fun _ _ _ _ => ()) d
theorem Zbc (d : D) : Zl4 d = d.cells := by
  cases d <;> try rfl
  rename_i x
  cases x <;> rfl
def Z8w (l : List D) : Bool := List.rec (motive := fun _ => Bool) true (fun d _ ih => Bool.rec (motive := fun _ => Bool) false ih (oneQ d)) l
theorem Znn : ∀ l : List D, Z8w l = Xa l
  | [] => rfl
  | d :: r => by
    show Bool.rec (motive := fun _ => Bool) false (Z8w r) (oneQ d) = (d.one && Xa r)
    rw [Znn r, Z8v]
    cases d.one <;> rfl
def eqF (a : List Nat) : List Nat → Bool := List.rec (motive := fun _ => List Nat → Bool) (fun b => List.rec (motive := fun _ => Bool) true (fun _ _ _ => false) b) (fun x _ ih b => List.rec (motive := fun _ => Bool) false (fun y s _ => bif Nat.beq x y then ih s else false) b) a
theorem Ztr : ∀ a b : List Nat, eqF a b = Ua a b
  | [], [] => rfl
  | [], _ :: _ => rfl
  | _ :: _, [] => rfl
  | x :: a, y :: b => by
    show (bif Nat.beq x y then eqF a b else false) = (Nat.beq x y && Ua a b)
    rw [Ztr a b]
    cases Nat.beq x y <;> rfl
def Z2c (i : Nat) (l : List Nat) : Bool := List.rec (motive := fun _ => Bool) false (fun x _ ih => bif Nat.beq x i then true else ih) l
inductive XT where
  | out (e : AExit) (t : Tr D) (h : H)
  | panic (d : D) (h : H)
  | fail (why : String)
def dInt (d : D) : (IntKind → Int → O D) → O D → O D := D.rec (motive_1 := fun _ => (IntKind → Int → O D) → O D → O D) (motive_2 := fun _ => Unit) (fun _ _ z => z) (fun a0 a1 k0 _ => k0 a0 a1) (fun _ _ z => z) (fun _ _ _ z => z) (fun _ _ _ z => z) (fun _ _ _ _ _ z => z) (fun _ _ _ _ _ z => z) (fun _ _ z => z) (fun _ _ _ z => z) (fun _ _ _ z => z) (fun _ _ _ _ _ _ z => z) (fun _ _ _ _ z => z) () (fun _ _ _ _ => ()) d
def dStr (d : D) : (List Nat → O D) → O D → O D := D.rec (motive_1 := fun _ => (List Nat → O D) → O D → O D) (motive_2 := fun _ => Unit) (fun _ _ z => z) (fun _ _ _ z => z) (fun a0 k0 _ => k0 a0) (fun _ _ _ z => z) (fun _ _ _ z => z) (fun _ _ _ _ _ z => z) (fun _ _ _ _ _ z => z) (fun _ _ z => z) (fun _ _ _ z => z) (fun _ _ _ z => z) (fun _ _ _ _ _ _ z => z) (fun _ _ _ _ z => z) () (fun _ _ _ _ => ()) d
def dPE (d : D) : (Nat → Nat → O D) → (List D → O D) → O D → O D := D.rec (motive_1 := fun _ => (Nat → Nat → O D) → (List D → O D) → O D → O D) (motive_2 := fun _ => Unit) (fun _ _ _ z => z) (fun _ _ _ _ z => z) (fun _ _ _ z => z) (fun a0 a1 k0 _ _ => k0 a0 a1) (fun a0 _ _ k1 _ => k1 a0) (fun _ _ _ _ _ _ z => z) (fun _ _ _ _ _ _ z => z) (fun _ _ _ z => z) (fun _ _ _ _ z => z) (fun _ _ _ _ z => z) (fun _ _ _ _ _ _ _ z => z) (fun _ _ _ _ _ z => z) () (fun _ _ _ _ => ()) d
def dPtr (d : D) : (Nat → Nat → O D) → O D → O D := D.rec (motive_1 := fun _ => (Nat → Nat → O D) → O D → O D) (motive_2 := fun _ => Unit) (fun _ _ z => z) (fun _ _ _ z => z) (fun _ _ z => z) (fun a0 a1 k0 _ => k0 a0 a1) (fun _ _ _ z => z) (fun _ _ _ _ _ z => z) (fun _ _ _ _ _ z => z) (fun _ _ z => z) (fun _ _ _ z => z) (fun _ _ _ z => z) (fun _ _ _ _ _ _ z => z) (fun _ _ _ _ z => z) () (fun _ _ _ _ => ()) d
def dAgg (d : D) : (List D → O D) → O D → O D := D.rec (motive_1 := fun _ => (List D → O D) → O D → O D) (motive_2 := fun _ => Unit) (fun _ _ z => z) (fun _ _ _ z => z) (fun _ _ z => z) (fun _ _ _ z => z) (fun _ _ _ z => z) (fun _ _ _ _ _ z => z) (fun _ _ _ _ _ z => z) (fun _ _ z => z) (fun a0 _ k0 _ => k0 a0) (fun _ _ _ z => z) (fun _ _ _ _ _ _ z => z) (fun _ _ _ _ z => z) () (fun _ _ _ _ => ()) d
def dTup (d : D) : (List D → O D) → O D → O D := D.rec (motive_1 := fun _ => (List D → O D) → O D → O D) (motive_2 := fun _ => Unit) (fun _ _ z => z) (fun _ _ _ z => z) (fun _ _ z => z) (fun _ _ _ z => z) (fun _ _ _ z => z) (fun _ _ _ _ _ z => z) (fun _ _ _ _ _ z => z) (fun _ _ z => z) (fun _ _ _ z => z) (fun a0 _ k0 _ => k0 a0) (fun _ _ _ _ _ _ z => z) (fun _ _ _ _ z => z) () (fun _ _ _ _ => ()) d
def dSl (d : D) : (Nat → Nat → List D → O D) → O D → O D := D.rec (motive_1 := fun _ => (Nat → Nat → List D → O D) → O D → O D) (motive_2 := fun _ => Unit) (fun _ _ z => z) (fun _ _ _ z => z) (fun _ _ z => z) (fun _ _ _ z => z) (fun _ _ _ z => z) (fun a0 a1 a2 _ k0 _ => k0 a0 a1 a2) (fun _ _ _ _ _ z => z) (fun _ _ z => z) (fun _ _ _ z => z) (fun _ _ _ z => z) (fun _ _ _ _ _ _ z => z) (fun _ _ _ _ z => z) () (fun _ _ _ _ => ()) d
def dIS (d : D) : (IntKind → Int → O D) → (List Nat → O D) → O D → O D := D.rec (motive_1 := fun _ => (IntKind → Int → O D) → (List Nat → O D) → O D → O D) (motive_2 := fun _ => Unit) (fun _ _ _ z => z) (fun a0 a1 k0 _ _ => k0 a0 a1) (fun a0 _ k1 _ => k1 a0) (fun _ _ _ _ z => z) (fun _ _ _ _ z => z) (fun _ _ _ _ _ _ z => z) (fun _ _ _ _ _ _ z => z) (fun _ _ _ z => z) (fun _ _ _ _ z => z) (fun _ _ _ _ z => z) (fun _ _ _ _ _ _ _ z => z) (fun _ _ _ _ _ z => z) () (fun _ _ _ _ => ()) d
def dBV (v : Value) : (Bool → O D) → O D → O D := Value.rec (motive_1 := fun _ => (Bool → O D) → O D → O D) (motive_2 := fun _ => Unit) (motive_3 := fun _ => Unit) (fun b k _ => k b) (fun _ _ _ z => z) (fun _ _ _ z => z) (fun _ _ _ _ z => z) (fun _ _ z => z) (fun _ _ z => z) (fun _ _ _ _ z => z) (fun _ _ z => z) (fun _ _ z => z) (fun _ _ _ _ _ _ z => z) (fun _ z => z) (fun _ _ _ _ z => z) (fun _ z => z) (fun _ _ _ z => z) (fun _ _ _ z => z) (fun _ _ => ()) () (fun _ _ _ _ => ()) v
def dB (d : D) : (Bool → O D) → O D → O D := D.rec (motive_1 := fun _ => (Bool → O D) → O D → O D) (motive_2 := fun _ => Unit) (fun v => dBV v) (fun _ _ _ z => z) (fun _ _ z => z) (fun _ _ _ z => z) (fun _ _ _ z => z) (fun _ _ _ _ _ z => z) (fun _ _ _ _ _ z => z) (fun _ _ z => z) (fun _ _ _ z => z) (fun _ _ _ z => z) (fun _ _ _ _ _ _ z => z) (fun _ _ _ _ z => z) () (fun _ _ _ _ => ()) d
def dBXV (v : Value) : (Bool → XT) → XT → XT := Value.rec (motive_1 := fun _ => (Bool → XT) → XT → XT) (motive_2 := fun _ => Unit) (motive_3 := fun _ => Unit) (fun b k _ => k b) (fun _ _ _ z => z) (fun _ _ _ z => z) (fun _ _ _ _ z => z) (fun _ _ z => z) (fun _ _ z => z) (fun _ _ _ _ z => z) (fun _ _ z => z) (fun _ _ z => z) (fun _ _ _ _ _ _ z => z) (fun _ z => z) (fun _ _ _ _ z => z) (fun _ z => z) (fun _ _ _ z => z) (fun _ _ _ z => z) (fun _ _ => ()) () (fun _ _ _ _ => ()) v
def dBX (d : D) : (Bool → XT) → XT → XT := D.rec (motive_1 := fun _ => (Bool → XT) → XT → XT) (motive_2 := fun _ => Unit) (fun v => dBXV v) (fun _ _ _ z => z) (fun _ _ z => z) (fun _ _ _ z => z) (fun _ _ _ z => z) (fun _ _ _ _ _ z => z) (fun _ _ _ _ _ z => z) (fun _ _ z => z) (fun _ _ _ z => z) (fun _ _ _ z => z) (fun _ _ _ _ _ _ z => z) (fun _ _ _ _ z => z) () (fun _ _ _ _ => ()) d
def dBbV (v : Value) : (Bool → Bool) → Bool → Bool := Value.rec (motive_1 := fun _ => (Bool → Bool) → Bool → Bool) (motive_2 := fun _ => Unit) (motive_3 := fun _ => Unit) (fun b k _ => k b) (fun _ _ _ z => z) (fun _ _ _ z => z) (fun _ _ _ _ z => z) (fun _ _ z => z) (fun _ _ z => z) (fun _ _ _ _ z => z) (fun _ _ z => z) (fun _ _ z => z) (fun _ _ _ _ _ _ z => z) (fun _ z => z) (fun _ _ _ _ z => z) (fun _ z => z) (fun _ _ _ z => z) (fun _ _ _ z => z) (fun _ _ => ()) () (fun _ _ _ _ => ()) v
def dBb (d : D) : (Bool → Bool) → Bool → Bool := D.rec (motive_1 := fun _ => (Bool → Bool) → Bool → Bool) (motive_2 := fun _ => Unit) (fun v => dBbV v) (fun _ _ _ z => z) (fun _ _ z => z) (fun _ _ _ z => z) (fun _ _ _ z => z) (fun _ _ _ _ _ z => z) (fun _ _ _ _ _ z => z) (fun _ _ z => z) (fun _ _ _ z => z) (fun _ _ _ z => z) (fun _ _ _ _ _ _ z => z) (fun _ _ _ _ z => z) () (fun _ _ _ _ => ()) d
def Zi9 (o : Option AObj) : (TypeId → List D → O D) → O D → O D := Option.rec (motive := fun _ => (TypeId → List D → O D) → O D → O D) (fun _ z => z) (fun x => AObj.rec (motive := fun _ => (TypeId → List D → O D) → O D → O D) (fun ty cs k _ => k ty cs) (fun _ _ z => z) (fun _ _ _ z => z) x) o
def oNat (i : Int) : (Nat → O D) → O D → O D := Int.rec (motive := fun _ => (Nat → O D) → O D → O D) (fun n k _ => k n) (fun _ _ z => z) i
def oDs (o : Option (List D)) (k : List D → O D) (z : O D) : O D := Option.rec (motive := fun _ => O D) z k o
def Zz9 (a : AAct) (x : Opd) : D := Opd.rec (motive := fun _ => D) (fun n => a.eval (.t n)) (fun d => d) x
theorem Zbw (a : AAct) (x : Opd) : Zz9 a x = a.eval x := by cases x <;> rfl
def Z15 (h : H) (a : D) (n : Nat) : Option (List D) :=
  match a with
  | .ptr l off => match hget h.mem l with
    | some (.cells _ cs) => Z6v n (Z2m off cs)
    | _ => none
  | .ep cs => Z6v n cs
  | _ => none
theorem Zau (h : H) (a : D) (n : Nat) : Z15 h a n = Zk h a n := by
  unfold Z15 Zk
  cases a <;> try rfl
  · rename_i l off
    simp only [Xh]
    cases h.mem.get l with
    | none => rfl
    | some o => cases o with
      | cells ty cs => simp only [Zjl, Zjm]
      | _ => rfl
  · simp only [Zjl]
def slF (h : H) (size : Nat) (d : D) : Option (Nat × List D) :=
  match d with
  | .sl _ n cs => bif Nat.beq (Zt4 cs) (n * size) then some (n, cs) else none
  | .row l off len _ => match Z15 h (.ptr l off) (len * size) with
    | some cs => some (len, cs)
    | none => none
  | d => Yd h size d
theorem Z3v (h : H) (size : Nat) (d : D) : slF h size d = Yd h size d := by
  unfold slF
  cases d <;> simp only [Zlx, Zau, Yd] <;> rfl
def Vw (size : Nat) (x : Opd) (i : Opd) (E : Env) (call : Call) (a : AAct) (h : H) : O D :=
  dSl (Zz9 a x) (fun id n cs => dInt (Zz9 a i) (fun _ m => oNat m (fun j => Bool.rec (motive := fun _ => O D) (.fail "index: slice") (VN (Z2m (Nat.mul j size) cs) (fun c r => .ok (.ep (c :: r)) h) (.fail "index: slice")) (Nat.blt j n)) (.fail "index: slice")) (.fail "index: slice")) (Uu (Zb6 size (Zz9 a x) (Zz9 a i)) h "index: slice")
theorem Zvo : @Vw = @Zeu := by
  funext size x i E call a h
  unfold Vw Zeu
  rw [Zbw, Zbw]
  cases a.eval x <;> try rfl
  rename_i id n cs
  cases a.eval i <;> try rfl
  rename_i k m
  cases m <;> try rfl
  rename_i j
  show (Bool.rec (motive := fun _ => O D) (.fail "index: slice") (VN (Z2m (Nat.mul j size) cs) (fun c r => .ok (.ep (c :: r)) h) (.fail "index: slice")) (Nat.blt j n)) = _
  simp only [Zb6, V3, Zjm]
  show _ = Uu (match bif Nat.blt j n then some j else none with
    | some i => match cs.drop (i * size) with
      | [] => none
      | c :: r => some (.ep (c :: r))
    | none => none) h "index: slice"
  cases Nat.blt j n with
  | false => rfl
  | true =>
    show VN (cs.drop (j * size)) _ _ = _
    simp only [cond_true]
    cases cs.drop (j * size) <;> rfl
def Xs (x : Opd) (i : Opd) (E : Env) (call : Call) (a : AAct) (h : H) : O D :=
  dStr (Zz9 a x) (fun s => dInt (Zz9 a i) (fun _ m => oNat m (fun i => VN (Z2m i s) (fun b _ => .ok (.int .u8 (.ofNat b)) h) (.fail "index: string")) (.fail "index: string")) (.fail "index: string")) (.fail "index: string")
theorem Zr3 : @Xs = @UY := by
  funext x i E call a h
  unfold Xs UY
  rw [Zbw, Zbw]
  generalize a.eval x = X
  generalize a.eval i = I
  cases X <;> try rfl
  rename_i s
  cases I <;> try rfl
  rename_i k n
  cases n <;> try rfl
  rename_i n
  show VN (Z2m n s) _ _ = _
  simp only [Zjm]
  cases s.drop n <;> rfl
def Va (x : Opd) (E : Env) (call : Call) (a : AAct) (h : H) : O D :=
  dStr (Zz9 a x) (fun l => .ok (.int .i64 (.ofNat (Zt4 l))) h) (.fail "len")
theorem Zr2 : @Va = @Za7 := by
  funext x E call a h
  unfold Va Za7
  rw [Zbw]
  cases a.eval x <;> try rfl
  rename_i l
  show O.ok (D.int .i64 (.ofNat (Zt4 l))) h = _
  rw [Zlx]
def Zz8 (ag : Bool) (n : Nat) (cs : List D) (off : Nat) (h : H) (why : String) : O D :=
  Bool.rec (motive := fun _ => O D) (VN (Z2m off cs) (fun d _ => .ok d h) (.fail why)) (oDs (Z6v n (Z2m off cs)) (fun r => .ok (.agg r) h) (.fail why)) ag
theorem Zv0 (ag : Bool) (n : Nat) (cs : List D) (off : Nat) (h : H) (why : String) : Zz8 ag n cs off h why = Uu (Zkf ag n cs off) h why := by
  unfold Zz8 Zkf
  rw [Zjl, Zjm]
  cases ag with
  | true => simp only [cond_true]; cases Nat.beq ((cs.drop off).take n).length n <;> rfl
  | false => simp only [cond_false]; cases cs.drop off <;> rfl
def Uj (ag : Bool) (off : Nat) (n : Nat) (x : Opd) (E : Env) (call : Call) (a : AAct) (h : H) : O D :=
  dAgg (Zz9 a x) (fun cs => Zz8 ag n cs off h "field") (.fail "field")
theorem Zvp : @Uj = @Zdg := by
  funext ag off n x E call a h
  unfold Uj Zdg
  rw [Zbw]
  cases a.eval x <;> try rfl
  exact Zv0 ..
def Zgf (ag : Bool) (n : Nat) (size : Nat) (x : Opd) (i : Opd) (E : Env) (call : Call) (a : AAct) (h : H) : O D :=
  match a.eval x, V3 (a.eval i) n with
    | .agg cs, some i => Zz8 ag size cs (i * size) h "index: value"
    | _, _ => .fail "index: value"
theorem Zr4 : @Zgf = @UZ := by
  funext ag n size x i E call a h
  unfold Zgf UZ
  simp only [Zv0]
  rfl
def Zcq (off : Nat) (x : Opd) (E : Env) (call : Call) (a : AAct) (h : H) : O D :=
  dPE (Zz9 a x) (fun l o => .ok (.ptr l (Nat.add o off)) h) (fun cs => .ok (.ep (Z2m off cs)) h) (.fail "fieldAddr")
theorem Zz2 : @Zcq = @Zke := by
  funext off x E call a h
  unfold Zcq Zke
  rw [Zbw]
  cases a.eval x <;> try rfl
  rename_i cs
  show O.ok (D.ep (Z2m off cs)) h = _
  rw [Zjm]
def Zz1 (n : Nat) (size : Nat) (x : Opd) (i : Opd) (E : Env) (call : Call) (a : AAct) (h : H) : O D :=
  match a.eval x with
  | .ep cs => (match V3 (a.eval i) n with
    | some i => .ok (.ep (Z2m (i * size) cs)) h
    | none => .fail "index: array")
  | d => Uu (Zhg n size d (a.eval i)) h "index: array"
theorem Z4z : @Zz1 = @Zev := by
  funext n size x i E call a h
  unfold Zz1 Zev
  cases a.eval x <;> try rfl
  simp only [Zhg, Zjm]
  cases V3 (a.eval i) n <;> rfl
def Zmm (i : Nat) (x : Opd) (E : Env) (call : Call) (a : AAct) (h : H) : O D :=
  dTup (Zz9 a x) (fun ds => VN (dpR i ds) (fun d _ => .ok d h) (.fail "extract")) (.fail "extract")
theorem Zvq : @Zmm = @Zew := by
  funext i x E call a h
  unfold Zmm Zew
  rw [Zbw]
  cases a.eval x <;> try rfl
  rename_i ds
  show VN (dpR i ds) _ _ = Uu (ds[i]?) h "extract"
  rw [Zl3]
  have : ds[i]? = (ds.drop i)[0]? := by rw [List.getElem?_drop]; rfl
  rw [this]
  cases ds.drop i <;> rfl
def Zvj (e : TypeId) (x : Opd) (E : Env) (call : Call) (a : AAct) (h : H) : O D :=
  match a.eval x with
    | .str l => .ok (.sl 0 (Zt4 l) (List.rec (motive := fun _ => List D) [] (fun b _ ih => .int .u8 (.ofNat b) :: ih) l)) h
    | _ => .fail "s2b"
theorem Zl5 : ∀ l : List Nat, (List.rec (motive := fun _ => List D) [] (fun b _ ih => .int .u8 (.ofNat b) :: ih) l : List D) = Xn l
  | [] => rfl
  | b :: r => congrArg (.int .u8 (.ofNat b) :: ·) (Zl5 r)
theorem Z4y : @Zvj = @Zet := by
  funext e x E call a h
  unfold Zvj Zet
  simp only [Zlx, Zl5]
  rfl
def byF (cs : List D) : Option (List Nat) := List.rec (motive := fun _ => Option (List Nat)) (some []) (fun d _ ih => match d with
  | .int .u8 (.ofNat n) => Option.rec (motive := fun _ => Option (List Nat)) none (fun l => bif Nat.blt n 256 then some (n :: l) else none) ih
  | _ => none) cs
theorem Z6k : ∀ cs : List D, byF cs = V4 cs
  | [] => rfl
  | d :: r => by
    unfold V4
    split
    · rename_i he; cases he
    · rename_i n s he
      cases he
      show Option.rec (motive := fun _ => Option (List Nat)) none (fun l => bif Nat.blt n 256 then some (n :: l) else none) (byF r) = _
      rw [Z6k r]
      cases V4 r <;> rfl
    · rename_i x s hx he
      cases he
      show (match d with
        | .int .u8 (.ofNat n) => Option.rec (motive := fun _ => Option (List Nat)) none (fun l => bif Nat.blt n 256 then some (n :: l) else none) (byF r)
        | _ => none) = _
      split
      · rename_i n; exact absurd rfl (hx n)
      · rfl
def Zkd (x : Opd) (E : Env) (call : Call) (a : AAct) (h : H) : O D :=
  match slF h 1 (a.eval x) with
    | some (_, cs) => match byF cs with
      | some l => .ok (.str l) h
      | none => .fail "b2s"
    | none => .fail "b2s"
theorem Zvs : @Zkd = @Zbr := by
  funext x E call a h
  unfold Zkd Zbr
  simp only [Z3v, Z6k]
  rfl
def apnF (h : H) (e : TypeId) (size bytes : Nat) (s x : D) : O D :=
  match slF h size x with
  | some (m, ys) =>
    bif Nat.beq m 0 then (match s with
      | .v (.slice none 0 0) | .sl _ _ _ => .ok s h
      | _ => .fail "append: nothing") else
    bif Z8w ys && Nat.beq (Zt4 ys) (m * size) && !Nat.beq size 0 then
    match s with
    | .v (.slice none 0 0) =>
      bif Nat.ble (m * bytes) 140737488355328 && Nat.ble m 140737488355328 then
      .ok (.sl h.next m ys) (WJ h (.tip m e))
      else .fail "append: size"
    | .sl id n cs => match hget h.mem id with
      | some (.tip k u) => bif Nat.beq k n && Nat.beq u e && Nat.beq (Zt4 cs) (n * size) && Nat.ble ((n + m) * bytes) 140737488355328 && Nat.ble (n + m) 140737488355328 then .ok (.sl id (n + m) (apF cs ys)) (Wq h id (.tip (n + m) e)) else .fail "append: not the tip"
      | _ => .fail "append: no tip"
    | _ => .fail "append: no slice"
    else .fail "append: cells"
  | none => .fail "append: what?"
theorem apnF_eq (h : H) (e : TypeId) (size bytes : Nat) (s x : D) : apnF h e size bytes s x = Wl h e size bytes s x := by
  unfold apnF Wl
  simp only [Z3v, Znn, Zlx, Xh, Zd1, Zac, Zqf]
  rfl
def YE (e : TypeId) (size : Nat) (bytes : Nat) (s : Opd) (x : Opd) (E : Env) (call : Call) (a : AAct) (h : H) : O D :=
  apnF h e size bytes (a.eval s) (a.eval x)
theorem Zvt : @YE = @Zgi := by
  funext e size bytes s x E call a h
  unfold YE Zgi
  exact apnF_eq ..
def apsF (h : H) (e : TypeId) (s x : D) : O D :=
  match x with
  | .str bs =>
    bif Nat.beq (Zt4 bs) 0 then (match s with
      | .v (.slice none 0 0) | .sl _ _ _ => .ok s h
      | _ => .fail "append: nothing") else
    match s with
    | .v (.slice none 0 0) =>
      bif Nat.ble (Zt4 bs) 140737488355328 then
      .ok (.sl h.next (Zt4 bs) (List.rec (motive := fun _ => List D) [] (fun b _ ih => .int .u8 (.ofNat b) :: ih) bs)) (WJ h (.tip (Zt4 bs) e))
      else .fail "append: size"
    | .sl id n cs => match hget h.mem id with
      | some (.tip k u) => bif Nat.beq k n && Nat.beq u e && Nat.beq (Zt4 cs) n && Nat.ble (n + Zt4 bs) 140737488355328 then .ok (.sl id (n + Zt4 bs) (apF cs (List.rec (motive := fun _ => List D) [] (fun b _ ih => .int .u8 (.ofNat b) :: ih) bs))) (Wq h id (.tip (n + Zt4 bs) e)) else .fail "append: not the tip"
      | _ => .fail "append: no tip"
    | _ => .fail "append: no slice"
  | _ => .fail "append: what?"
theorem apsF_eq (h : H) (e : TypeId) (s x : D) : apsF h e s x = Zcm h e s x := by
  unfold apsF Zcm
  simp only [Zlx, Zl5, Xh, Zd1, Zac, Zqf]
  rfl
def Zpd (e : TypeId) (s : Opd) (x : Opd) (E : Env) (call : Call) (a : AAct) (h : H) : O D :=
  apsF h e (a.eval s) (a.eval x)
theorem Z18 : @Zpd = @Zc0 := by
  funext e s x E call a h
  unfold Zpd Zc0
  exact apsF_eq ..
def keF (a b : D) : Option Bool :=
  match a, b with
  | .str a, .str b => some (eqF a b)
  | a, b => VU a b
theorem Z5v (a b : D) : keF a b = VU a b := by
  unfold keF
  split
  · rw [Ztr]; rfl
  · rfl
def finF (k : D) (es : List (D × D)) : Option (Option D) := List.rec (motive := fun _ => Option (Option D)) (some none) (fun e _ ih => match keF k e.1 with
    | some true => some (some e.2)
    | some false => ih
    | none => none) es
theorem Z0n (k : D) : ∀ es : List (D × D), finF k es = Zad k es
  | [] => rfl
  | (q, d) :: r => by
    show (match keF k q with
      | some true => some (some d)
      | some false => finF k r
      | none => none) = _
    rw [Z0n k r, Zad, Z5v]
    rfl
def semF (k d : D) (es : List (D × D)) : Option (List (D × D)) := List.rec (motive := fun _ => Option (List (D × D))) (some [(k, d)]) (fun e r ih => match keF k e.1 with
    | some true => some ((e.1, d) :: r)
    | some false => Option.rec (motive := fun _ => Option (List (D × D))) none (fun s => some (e :: s)) ih
    | none => none) es
theorem Zzs (k d : D) : ∀ es : List (D × D), semF k d es = Zga k d es
  | [] => rfl
  | (q, e) :: r => by
    show (match keF k q with
      | some true => some ((q, d) :: r)
      | some false => Option.rec (motive := fun _ => Option (List (D × D))) none (fun s => some ((q, e) :: s)) (semF k d r)
      | none => none) = _
    rw [Zzs k d r, Zga, Z5v]
    cases VU k q with
    | none => rfl
    | some b => cases b with
      | true => rfl
      | false => cases Zga k d r <;> rfl
def mpF (h : H) (d : D) : Option (List (D × D)) :=
  match d with
  | .v (.map none) => some []
  | .map l => match hget h.mem l with
    | some (.map es) => some es
    | _ => none
  | _ => none
theorem mpF_eq (h : H) (d : D) : mpF h d = (match d with
        | .v (.map none) => some []
        | .map l => match h.mem.get l with
          | some (.map es) => some es
          | _ => none
        | _ => none) := by
  unfold mpF
  simp only [Xh]
def Zde (flat : Nat) (z : D) (x : Opd) (k : Opd) (ok : Bool) (E : Env) (call : Call) (a : AAct) (h : H) : O D :=
  bif Za0 flat (a.eval k) then match mpF h (a.eval x) with
      | some es => match finF (a.eval k) es with
        | some (some d) => .ok (bif ok then .tup [d, .v (.bool true)] else d) h
        | some none => .ok (bif ok then .tup [z, .v (.bool false)] else z) h
        | none => .fail "lookup: key"
      | none => .fail "lookup"
    else .fail "lookup"
theorem Z17 : @Zde = @UX := by
  funext flat z x k ok E call a h
  unfold Zde UX
  simp only [mpF_eq, Z0n]
  rfl
def Zbp (flat : Nat) (m : Opd) (k : Opd) (x : Opd) (E : Env) (call : Call) (a : AAct) (h : H) : O D :=
  match a.eval m with
    | .map l => bif Za0 flat (a.eval k) then match hget h.mem l with
      | some (.map es) => match semF (a.eval k) (a.eval x) es with
        | some es => .ok Zj (Wq h l (.map es))
        | none => .fail "mapUpdate: key"
      | _ => .fail "mapUpdate"
      else .fail "mapUpdate"
    | _ => .fail "mapUpdate"
theorem Z16 : @Zbp = @Zcz := by
  funext flat m k x E call a h
  unfold Zbp Zcz
  simp only [Xh, Zzs, Zd1]
  rfl
def rpF (l : List D) (n : Nat) : List D := Nat.rec (motive := fun _ => List D) [] (fun _ ih => apF l ih) n
theorem Z4s (l : List D) : ∀ n, rpF l n = repeatL l n
  | 0 => rfl
  | n + 1 => by
    show apF l (rpF l n) = _
    rw [Zqf, Z4s l n]; rfl
def Zbq (e : TypeId) (size : Nat) (bytes : Nat) (z : List D) (l : Opd) (c : Opd) (E : Env) (call : Call) (a : AAct) (h : H) : O D :=
  match a.eval l, a.eval c with
    | .int _ (.ofNat n), .int _ (.ofNat m) =>
      bif Nat.ble m 140737488355328 && Nat.ble (m * bytes) 140737488355328 then
        bif Nat.beq n m then .ok (.row h.next 0 n n) (WJ h (.cells e (rpF z n)))
        else bif Nat.beq n 0 then .ok (.sl h.next 0 []) (WJ h (.tip 0 e))
        else .fail "makeSlice"
      else .fail "makeSlice"
    | _, _ => .fail "makeSlice"
theorem Zr1 : @Zbq = @UW := by
  funext e size bytes z l c E call a h
  unfold Zbq UW
  simp only [Z4s, Zac]
  rfl
def Zav (size : Nat) (x : Opd) (lo : Option Opd) (hi : Option Opd) (E : Env) (call : Call) (a : AAct) (h : H) : O D :=
  match a.eval x with
  | .sl id n cs => match XV n n (lo.map a.eval) (hi.map a.eval) with
    | some (l, k) => bif Nat.beq l 0 && Nat.beq k n then .ok (.sl id n cs) h else .ok (.sl 0 (k - l) (tkF ((k - l) * size) (Z2m (l * size) cs))) h
    | none => .fail "slice"
  | d => Uu (Zlj size d (lo.map a.eval) (hi.map a.eval)) h "slice"
theorem Zr0 : @Zav = @UV := by
  funext size x lo hi E call a h
  unfold Zav UV
  cases a.eval x <;> try rfl
  rename_i id n cs
  simp only [Zlj, Z3h, Zjm]
  cases XV n n (lo.map a.eval) (hi.map a.eval) with
  | none => rfl
  | some p =>
    obtain ⟨l, k⟩ := p
    simp only
    cases Nat.beq l 0 && Nat.beq k n <;> rfl
def Wt (x : Opd) (E : Env) (call : Call) (a : AAct) (h : H) : O D :=
  dPE (Zz9 a x) (fun l o => .ok (.ptr l o) h) (fun cs => .ok (.ep cs) h) (XJ x E call a h)
theorem Zhs : @Wt = @XJ := by
  funext x E call a h
  unfold Wt
  rw [Zbw]
  cases hx : a.eval x <;> try rfl
  all_goals (unfold XJ; rw [hx]; rfl)
def V6 (x : Opd) (E : Env) (call : Call) (a : AAct) (h : H) : O D :=
  dSl (Zz9 a x) (fun _ n _ => .ok (.int .i64 (.ofNat n)) h) (Zdf x E call a h)
theorem Zvn : @V6 = @Zdf := by
  funext x E call a h
  unfold V6
  rw [Zbw]
  cases hx : a.eval x <;> try rfl
  all_goals (unfold Zdf; rw [hx]; rfl)
def Zo9 (op : UnOp) (x : Opd) (E : Env) (call : Call) (a : AAct) (h : H) : O D :=
  dB (Zz9 a x) (fun b => UnOp.rec (motive := fun _ => O D) (Zdr op x E call a h) (Zdr op x E call a h) (.ok (.v (.bool (Bool.rec (motive := fun _ => Bool) true false b))) h) (Zdr op x E call a h) op) (Zdr op x E call a h)
theorem Z8q : @Zo9 = @Zdr := by
  funext op x E call a h
  unfold Zo9
  rw [Zbw]
  cases hx : a.eval x <;> try rfl
  rename_i v
  cases v <;> try rfl
  cases op <;> try rfl
  rename_i b
  unfold Zdr
  rw [hx]
  cases b <;> rfl
def tvN (k : Nat) : Nat → Tr D → D := Nat.rec (motive := fun _ => Nat → Tr D → D) (fun n t => match t.get n with
    | some d => d
    | none => Zj) (fun _ ih n t => Tr.rec (motive := fun _ => D) Zj (fun l v r _ _ => bif Nat.beq n 0 then Option.rec (motive := fun _ => D) Zj (fun d => d) v else bif Nat.beq (Nat.mod n 2) 1 then ih (Nat.div n 2) l else ih (Nat.pred (Nat.div n 2)) r) t) k
theorem Zxr : ∀ (k n : Nat) (t : Tr D), tvN k n t = (match t.get n with
    | some d => d
    | none => Zj)
  | 0, n, t => rfl
  | k + 1, n, .nil => rfl
  | k + 1, n, .node l v r => by
    show (bif Nat.beq n 0 then Option.rec (motive := fun _ => D) Zj (fun d => d) v else bif Nat.beq (Nat.mod n 2) 1 then tvN k (Nat.div n 2) l else tvN k (Nat.pred (Nat.div n 2)) r) = _
    rw [Zxr k, Zxr k, Tr.get]
    cases Nat.beq n 0 with
    | true => cases v <;> rfl
    | false =>
      simp only [cond_false]
      have e : Nat.beq (n % 2) 1 = Nat.beq (Nat.mod n 2) 1 := rfl
      rw [e]
      cases Nat.beq (Nat.mod n 2) 1 <;> rfl
def tvF (a : AAct) (n : Nat) : D := tvN 12 n a.tmps
theorem tvF_eq (a : AAct) (n : Nat) : tvF a n = a.eval (.t n) := Zxr 12 n a.tmps
def crF (a : AAct) (h : H) (l : List CRes) : Option (List D) := List.rec (motive := fun _ => Option (List D)) (some []) (fun r _ ih => match (match r with
      | .t n => some (tvF a n)
      | .c1 n => match Z15 h (tvF a n) 1 with
        | some [d] => some d
        | _ => none
      | .cN n size => match Z15 h (tvF a n) size with
        | some cs => some (.agg cs)
        | none => none) with
    | some d => Option.rec (motive := fun _ => Option (List D)) none (fun ds => some (d :: ds)) ih
    | none => none) l
theorem Z6g (a : AAct) (h : H) : ∀ l, crF a h l = WE a h l
  | [] => rfl
  | r :: rs => by
    show (match (match r with
      | .t n => some (tvF a n)
      | .c1 n => match Z15 h (tvF a n) 1 with
        | some [d] => some d
        | _ => none
      | .cN n size => match Z15 h (tvF a n) size with
        | some cs => some (.agg cs)
        | none => none) with
    | some d => Option.rec (motive := fun _ => Option (List D)) none (fun ds => some (d :: ds)) (crF a h rs)
    | none => none) = _
    rw [Z6g a h rs]
    cases r <;> simp only [WE, tvF_eq, Zau]
    all_goals generalize WE a h rs = R
    case t n => cases R <;> rfl
    case c1 n =>
      generalize Zk h (a.eval (.t n)) 1 = C
      rcases C with _ | _ | ⟨d, _ | _⟩ <;> cases R <;> rfl
    case cN n size =>
      generalize Zk h (a.eval (.t n)) size = C
      cases C <;> cases R <;> rfl
def YH (fn : CFn) (a : AAct) (h : H) : O D :=
  match crF a h fn.results with
  | some ds => .ok (Z5e ds) h
  | none => .fail "results"
theorem Znr : @YH = @Zan := by
  funext fn a h
  unfold YH Zan
  rw [Z6g]
  rfl
theorem Ztc (i : Nat) : ∀ l, Z2c i l = YR i l
  | [] => rfl
  | x :: r => by
    show (bif Nat.beq x i then true else Z2c i r) = _
    rw [Ztc i r, YR]
    first
      | rfl
      | (cases Nat.beq x i <;> rfl)
      | (rw [show Nat.beq x i = Nat.beq i x from by rw [Bool.eq_iff_iff, Nat.beq_eq, Nat.beq_eq]; exact eq_comm]; cases Nat.beq i x <;> rfl)
def rkF (inc : List Nat) (x : D) (cs : List D) (recs : List Rec) : Bool := List.rec (motive := fun _ => Bool) true (fun r _ ih => match r with
  | .loud i h => bif Z2c i inc then (match Z15 h x (Z5r cs 0) with
    | some ds => bif YP cs ds then ih else false
    | none => false) else ih
  | _ => ih) recs
theorem Zeq (inc : List Nat) (x : D) (cs : List D) : ∀ recs, rkF inc x cs recs = XP inc x cs recs
  | [] => rfl
  | r :: rs => by
    show (match r with
      | .loud i h => bif Z2c i inc then (match Z15 h x (Z5r cs 0) with
        | some ds => bif YP cs ds then rkF inc x cs rs else false
        | none => false) else rkF inc x cs rs
      | _ => rkF inc x cs rs) = _
    rw [Zeq inc x cs rs]
    cases r with
    | loud i h =>
      simp only [Ztc, Zau, Zgp, Nat.zero_add, XP]
      cases YR i inc with
      | false => rfl
      | true =>
        simp only [cond_true, Bool.not_true, Bool.false_or]
        cases Zk h x cs.length with
        | none => rfl
        | some ds => simp only; cases YP cs ds <;> rfl
    | _ => rfl
def lkF (inc : List Nat) (h : H) (recs : List Rec) : Bool := List.rec (motive := fun _ => Bool) true (fun r _ ih => match r with
  | .rd i x cs => bif Z2c i inc then (match Z15 h x (Z5r cs 0) with
    | some ds => bif YP cs ds then ih else false
    | none => false) else ih
  | _ => ih) recs
theorem Zdh (inc : List Nat) (h : H) : ∀ recs, lkF inc h recs = Xm inc h recs
  | [] => rfl
  | r :: rs => by
    show (match r with
      | .rd i x cs => bif Z2c i inc then (match Z15 h x (Z5r cs 0) with
        | some ds => bif YP cs ds then lkF inc h rs else false
        | none => false) else lkF inc h rs
      | _ => lkF inc h rs) = _
    rw [Zdh inc h rs]
    cases r with
    | rd i x cs =>
      simp only [Ztc, Zau, Zgp, Nat.zero_add, Xm]
      cases YR i inc with
      | false => rfl
      | true =>
        simp only [cond_true, Bool.not_true, Bool.false_or]
        cases Zk h x cs.length with
        | none => rfl
        | some ds => simp only; cases YP cs ds <;> rfl
    | _ => rfl
end
end Go.Abs
namespace Go.Abs
noncomputable section
def kNum (k : IntKind) : Nat := IntKind.rec (motive := fun _ => Nat) 0 1 2 3 4 5 6 7 k
def kEq (a b : IntKind) : Bool := Nat.beq (kNum a) (kNum b)
theorem kEq_eq (a b : IntKind) : kEq a b = decide (a = b) := by cases a <;> cases b <;> rfl
def Z2i (k : IntKind) : Nat :=
  match k with
  | .i8 => 127
  | .i16 => 32767
  | .i32 => 2147483647
  | .i64 => 9223372036854775807
  | .u8 => 255
  | .u16 => 65535
  | .u32 => 4294967295
  | .u64 => 18446744073709551615
theorem Zyr (k : IntKind) (m : Nat) : Z5w k (.ofNat m) = Nat.ble m (Z2i k) := by
  cases k <;> (rw [Bool.eq_iff_iff]; simp only [Z5w, Z2i, Bool.and_eq_true, decide_eq_true_eq, Nat.ble_eq, Int.ofNat_eq_natCast]; omega)
def Zf2 (k : IntKind) (n : Int) : Int := Int.rec (motive := fun _ => Int) (fun m => bif Nat.ble m (Z2i k) then .ofNat m else Zf3 k (.ofNat m)) (fun m => Zf3 k (.negSucc m)) n
theorem Znt (k : IntKind) (n : Int) : Zf2 k n = Zf3 k n := by
  cases n with
  | ofNat m =>
    show (bif Nat.ble m (Z2i k) then Int.ofNat m else Zf3 k (.ofNat m)) = _
    cases h : Nat.ble m (Z2i k) with
    | true => simp only [cond_true, Zf3, Zyr, h]
    | false => rfl
  | negSucc m => rfl
def iAdd (a b : Int) : Int := Int.rec (motive := fun _ => Int) (fun m => Int.rec (motive := fun _ => Int) (fun n => .ofNat (Nat.add m n)) (fun n => .ofNat m + .negSucc n) b) (fun m => .negSucc m + b) a
theorem iAdd_eq (a b : Int) : iAdd a b = a + b := by cases a <;> cases b <;> rfl
def Z50 (a b : Int) : Int := Int.rec (motive := fun _ => Int) (fun m => Int.rec (motive := fun _ => Int) (fun n => bif Nat.ble n m then .ofNat (Nat.sub m n) else .ofNat m - .ofNat n) (fun n => .ofNat m - .negSucc n) b) (fun m => .negSucc m - b) a
theorem Ztj (a b : Int) : Z50 a b = a - b := by
  cases a with
  | negSucc m => rfl
  | ofNat m => cases b with
    | negSucc n => rfl
    | ofNat n =>
      simp only [Z50]
      cases h : Nat.ble n m with
      | false => rfl
      | true =>
        have := Nat.le_of_ble_eq_true h
        simp only [cond_true]
        show Int.ofNat (m - n) = _
        simp only [Int.ofNat_eq_natCast]; omega
def iMul (a b : Int) : Int := Int.rec (motive := fun _ => Int) (fun m => Int.rec (motive := fun _ => Int) (fun n => .ofNat (Nat.mul m n)) (fun n => .ofNat m * .negSucc n) b) (fun m => .negSucc m * b) a
theorem iMul_eq (a b : Int) : iMul a b = a * b := by cases a <;> cases b <;> rfl
def Zb7 (a b : Int) : Bool := Int.rec (motive := fun _ => Bool) (fun m => Int.rec (motive := fun _ => Bool) (fun n => Nat.beq m n) (fun n => false) b) (fun m => Int.rec (motive := fun _ => Bool) (fun n => false) (fun n => Nat.beq m n) b) a
theorem V5 (m n : Nat) : Nat.beq m n = decide (m = n) := by
  cases h : Nat.beq m n with
  | true => simp [Nat.eq_of_beq_eq_true h]
  | false => simp; exact fun e => by subst e; rw [Nat.beq_refl] at h; cases h
theorem Wf (a b : Int) : Zb7 a b = decide (a = b) := by
  cases a <;> cases b <;> simp [Zb7, V5]
  all_goals (first | omega | rfl | (rename_i m n; constructor <;> intro h <;> omega))
def iLt (a b : Int) : Bool := Int.rec (motive := fun _ => Bool) (fun m => Int.rec (motive := fun _ => Bool) (fun n => Nat.blt m n) (fun n => decide (Int.ofNat m < .negSucc n)) b) (fun m => decide (Int.negSucc m < b)) a
theorem Zaf (m n : Nat) : Nat.blt m n = decide (m < n) := by
  rw [Bool.eq_iff_iff]
  simp only [Nat.blt_eq, decide_eq_true_eq]
theorem Zyt (a b : Int) : iLt a b = decide (a < b) := by
  cases a with
  | negSucc m => rfl
  | ofNat m => cases b with
    | negSucc n => rfl
    | ofNat n => simp only [iLt, Zaf, Int.ofNat_eq_natCast, Int.ofNat_lt]
def Z51 (a b : Int) : Bool := !iLt b a
theorem iLe_eq (a b : Int) : Z51 a b = decide (a ≤ b) := by
  rw [Z51, Zyt]
  by_cases h : b < a
  · simp [h]
  · simp [h]; omega
abbrev VH := Env → Call → Tr D → H → O D
def Z42 (op : BinOp) (t : TypeId) (ox oy : Operand) (a b : List Nat) (E : Env) (h : H) : O D :=
  match op with
  | .eql => .ok (.v (.bool (eqF a b))) h
  | .neq => .ok (.v (.bool (!eqF a b))) h
  | .add => bif Nat.ble (Nat.add (Zt4 a) (Zt4 b)) 140737488355328 then .ok (.str (apF a b)) h else Uu (Zcr E .add t ox oy (.str a) (.str b)) h "bin"
  | op => Uu (Zcr E op t ox oy (.str a) (.str b)) h "bin"
theorem Zz5 (op : BinOp) (t : TypeId) (ox oy : Operand) (a b : List Nat) (E : Env) (h : H) : Z42 op t ox oy a b E h = Uu (Zcr E op t ox oy (.str a) (.str b)) h "bin" := by
  cases op <;> try rfl
  · simp only [Z42, Zlx, Zqf]
    cases hb : Nat.ble (Nat.add a.length b.length) 140737488355328 with
    | false => rfl
    | true =>
      have hb' : Nat.ble (a.length + b.length) 140737488355328 = true := hb
      simp only [cond_true, Zcr, VZ, hb', Uu]
  · simp only [Z42, Ztr, Zcr, VZ, Uu]
  · simp only [Z42, Ztr, Zcr, VZ, Uu]
def Zvv (E : Env) (op : BinOp) (t : TypeId) (ox oy : Operand) (x y : D) (h : H) : O D := Uu (Zcr E op t ox oy x y) h "bin"
def Zd (f : IntKind → Int → Int → D) (op : BinOp) (t : TypeId) (ox oy : Operand) (g1 g2 : Tr D → D) : VH := fun E call tr h =>
  (fun x y => dIS x (fun k a => dInt y (fun k' b => Bool.rec (motive := fun _ => O D) (Zvv E op t ox oy x y h) (.ok (f k a b) h) (kEq k k')) (Zvv E op t ox oy x y h)) (fun a => dStr y (fun b => Z42 op t ox oy a b E h) (Zvv E op t ox oy x y h)) (Zvv E op t ox oy x y h)) (g1 tr) (g2 tr)
def Y2 (k : IntKind) (a b : Int) : D := .int k (Zf2 k (iAdd a b))
def XY (k : IntKind) (a b : Int) : D := .int k (Zf2 k (Z50 a b))
def Zhl (k : IntKind) (a b : Int) : D := .int k (Zf2 k (iMul a b))
def ZX (k : IntKind) (a b : Int) : D := .v (.bool (Zb7 a b))
def U6 (k : IntKind) (a b : Int) : D := .v (.bool (!Zb7 a b))
def Vc (k : IntKind) (a b : Int) : D := .v (.bool (iLt a b))
def Zfw (k : IntKind) (a b : Int) : D := .v (.bool (Z51 a b))
def WW (k : IntKind) (a b : Int) : D := .v (.bool (iLt b a))
def XH (k : IntKind) (a b : Int) : D := .v (.bool (Z51 b a))
def VI (op : BinOp) (t : TypeId) (ox oy : Operand) (g1 g2 : Tr D → D) : VH := fun E call tr h => Uu (Zcr E op t ox oy (g1 tr) (g2 tr)) h "bin"
def fbin (op : BinOp) (t : TypeId) (ox oy : Operand) (g1 g2 : Tr D → D) : VH :=
  match op with
  | .add => Zd Y2 .add t ox oy g1 g2
  | .sub => Zd XY .sub t ox oy g1 g2
  | .mul => Zd Zhl .mul t ox oy g1 g2
  | .eql => Zd ZX .eql t ox oy g1 g2
  | .neq => Zd U6 .neq t ox oy g1 g2
  | .lss => Zd Vc .lss t ox oy g1 g2
  | .leq => Zd Zfw .leq t ox oy g1 g2
  | .gtr => Zd WW .gtr t ox oy g1 g2
  | .geq => Zd XH .geq t ox oy g1 g2
  | op => VI op t ox oy g1 g2
theorem Z8s {f : IntKind → Int → Int → D} {op : BinOp} (hf : ∀ k a b, VZ op (.int k a) (.int k b) = some (f k a b)) (t : TypeId) (ox oy : Operand) (g1 g2 : Tr D → D) (E : Env) (call : Call) (tr : Tr D) (h : H) :
    Zd f op t ox oy g1 g2 E call tr h = Uu (Zcr E op t ox oy (g1 tr) (g2 tr)) h "bin" := by
  unfold Zd
  generalize g1 tr = x
  generalize g2 tr = y
  cases x <;> try rfl
  · cases y <;> try rfl
    rename_i k a k' b
    show Bool.rec (motive := fun _ => O D) _ _ (kEq k k') = _
    rw [kEq_eq]
    by_cases hk : k = k'
    · subst hk
      simp [Zcr, hf, Uu]
    · simp [hk, Zvv]
  · cases y <;> try rfl
    exact Zz5 ..
theorem fbin_eq (op : BinOp) (t : TypeId) (ox oy : Operand) (g1 g2 : Tr D → D) (E : Env) (call : Call) (tr : Tr D) (h : H) :
    fbin op t ox oy g1 g2 E call tr h = Uu (Zcr E op t ox oy (g1 tr) (g2 tr)) h "bin" := by
  cases op <;> first
    | rfl
    | (refine Z8s (fun k a b => ?_) t ox oy g1 g2 E call tr h
       simp [VZ, Y2, XY, Zhl, ZX, U6, Vc, Zfw, WW, XH, Znt, iAdd_eq, Ztj, iMul_eq, Wf, Zyt, iLe_eq])
def ZJ (g : Tr D → D) : VH := fun E call t h =>
  dPE (g t) (fun l off => Zi9 (hget h.mem l) (fun _ cs => VN (dpR off cs) (fun d _ => .ok d h) (.fail "load")) (.fail "load")) (fun cs => VN cs (fun d _ => .ok d h) (.fail "load")) (.fail "load")
theorem Z0m (g : Tr D → D) (E : Env) (call : Call) (t : Tr D) (h : H) (x : Opd) (hx : (act t).eval x = g t) : ZJ g E call t h = Zhu x E call (act t) h := by
  unfold ZJ Zhu
  rw [hx]
  cases g t <;> try rfl
  · rename_i l off
    show Zi9 (hget h.mem l) _ _ = _
    simp only [Zk, Xh]
    cases h.mem.get l with
    | none => rfl
    | some o => cases o with
      | cells ty cs =>
        show VN (dpR off cs) _ _ = _
        simp only [Zl3]; cases hd : cs.drop off <;> simp [Nat.beq, VN]
      | _ => rfl
  · rename_i cs
    show VN cs _ _ = _
    cases cs <;> simp [Nat.beq, VN, Zk]
def Zi (n : Nat) (g : Tr D → D) : VH := fun E call t h =>
  dPE (g t) (fun l off => Zi9 (hget h.mem l) (fun _ cs => oDs (Z6v n (dpR off cs)) (fun r => .ok (.agg r) h) (.fail "loadN")) (.fail "loadN")) (fun cs => oDs (Z6v n cs) (fun r => .ok (.agg r) h) (.fail "loadN")) (.fail "loadN")
theorem Z0l (n : Nat) (g : Tr D → D) (E : Env) (call : Call) (t : Tr D) (h : H) (x : Opd) (hx : (act t).eval x = g t) : Zi n g E call t h = Zht n x E call (act t) h := by
  unfold Zi Zht
  rw [hx]
  cases g t <;> try rfl
  · rename_i l off
    show Zi9 (hget h.mem l) _ _ = _
    simp only [Zk, Xh]
    cases h.mem.get l with
    | none => rfl
    | some o => cases o with
      | cells ty cs =>
        show oDs (Z6v n (dpR off cs)) _ _ = _
        simp only [Zjl, Zl3]
        cases Nat.beq ((cs.drop off).take n).length n <;> rfl
      | _ => rfl
  · rename_i cs
    show oDs (Z6v n cs) _ _ = _
    simp only [Zk, Zjl]
    cases Nat.beq (cs.take n).length n <;> rfl
def Ze (n : Nat) (g1 g2 : Tr D → D) : VH := fun E call t h =>
  dPtr (g1 t) (fun l off => Zi9 (hget h.mem l) (fun ty cs => (fun xs => Bool.rec (motive := fun _ => O D) (.fail "store") (Bool.rec (motive := fun _ => O D) (.fail "store") (oDs (paF off xs cs) (fun cs => .ok Zj (Wq h l (.cells ty cs))) (.fail "store")) (Z8w xs)) (Nat.beq (Z5r xs 0) n)) (Zl4 (g2 t))) (.fail "store")) (.fail "store")
theorem fst1_eq (n : Nat) (g1 g2 : Tr D → D) (E : Env) (call : Call) (t : Tr D) (h : H) (x y : Opd) (hx : (act t).eval x = g1 t) (hy : (act t).eval y = g2 t) : Ze n g1 g2 E call t h = Zs5 n x y E call (act t) h := by
  unfold Ze Zs5
  rw [hx, hy]
  simp only [Zix]
  cases g1 t <;> try rfl
  rename_i l off
  show Zi9 (hget h.mem l) _ _ = _
  simp only [Xh]
  cases h.mem.get l with
  | none => rfl
  | some o => cases o with
    | cells ty cs =>
      show Bool.rec (motive := fun _ => O D) _ _ _ = _
      simp only [Zgp, Nat.zero_add, Znn, Zs9, Zd1, Zbc]
      cases Nat.beq (g2 t).cells.length n with
      | false => rfl
      | true => cases Xa (g2 t).cells with
        | false => rfl
        | true => simp only [Bool.and_self, cond_true]; cases patch cs off (g2 t).cells <;> rfl
    | _ => rfl
def Za (ty : TypeId) (z : List D) : VH := fun E call t h => .ok (.ptr h.next 0) (WJ h (.cells ty z))
def Ye (ty : TypeId) (g : Tr D → D) : VH := fun E call t h => .ok (.ptr h.next 0) (WJ h (.cells ty (Zl4 (g t))))
def Zdi : VH := fun E call t h => .ok (.map h.next) (WJ h (.map []))
def U5 (t : Tr D) (cells : List D) : List (Nat × Nat × (Tr D → D)) → Option (List D)
  | [] => some cells
  | (off, size, g) :: r => bif Nat.beq (g t).cells.length size then (match patch cells off (g t).cells with
      | some cells => U5 t cells r
      | none => none) else none
def fflF (t : Tr D) (cells : List D) (l : List (Nat × Nat × (Tr D → D))) : Option (List D) :=
  List.rec (motive := fun _ => List D → Option (List D)) (fun cells => some cells) (fun p _ ih cells => (fun xs => Bool.rec (motive := fun _ => Option (List D)) none (Option.rec (motive := fun _ => Option (List D)) none ih (paF p.1 xs cells)) (Nat.beq (Z5r xs 0) p.2.1)) (Zl4 (p.2.2 t))) l cells
theorem Zfj (t : Tr D) : ∀ (l : List (Nat × Nat × (Tr D → D))) (cells : List D), fflF t cells l = U5 t cells l
  | [], cells => rfl
  | (off, size, g) :: r, cells => by
    show Bool.rec (motive := fun _ => Option (List D)) none (Option.rec (motive := fun _ => Option (List D)) none (fun c => fflF t c r) (paF off (Zl4 (g t)) cells)) (Nat.beq (Z5r (Zl4 (g t)) 0) size) = _
    rw [Zbc, Zgp, Nat.zero_add, Zs9, U5]
    cases Nat.beq (g t).cells.length size with
    | false => rfl
    | true =>
      simp only [cond_true]
      cases patch cells off (g t).cells with
      | none => rfl
      | some c => simp only [Zfj t r]
def Ztm (ps : List (Nat × Nat × Opd)) : List (Nat × Nat × (Tr D → D)) := ps.map fun p => (p.1, p.2.1, fe p.2.2)
theorem Zp7 (t : Tr D) : ∀ (ps : List (Nat × Nat × Opd)) (cells : List D), U5 t cells (Ztm ps) = Zb9 (act t) cells ps
  | [], cells => rfl
  | (off, size, x) :: r, cells => by
    simp only [Ztm, List.map_cons, U5, Zb9, X1]
    cases Nat.beq ((act t).eval x).cells.length size with
    | false => rfl
    | true =>
      simp only [cond_true]
      cases patch cells off ((act t).eval x).cells with
      | none => rfl
      | some c => exact Zp7 t r c
def Zy (z : List D) (ps : List (Nat × Nat × (Tr D → D))) : VH := fun E call t h =>
  match fflF t z ps with
  | some cs => .ok (.agg cs) h
  | none => .fail "build"
def Zn (e : TypeId) (len : Nat) (z : List D) (ps : List (Nat × Nat × (Tr D → D))) : VH := fun E call t h =>
  match fflF t z ps with
  | some cs => .ok (.sl h.next len cs) (WJ h (.tip len e))
  | none => .fail "buildSl"
def Yf (g : Tr D → D) : VH := fun E call t h => .ok (g t) h
def Zu (c x y : Tr D → D) : VH := fun E call t h => dB (c t) (fun b => .ok (Bool.rec (motive := fun _ => D) (y t) (x t) b) h) (.fail "pick")
def Xq (k : IntKind) (g : Tr D → D) : VH := fun E call t h => dInt (g t) (fun _ n => .ok (.int k (Zf2 k n)) h) (.fail "cint")
def Z9 (f : Nat) (gs : List (Tr D → D)) : VH := fun E call t h => call f (Zkv gs t) h
def Zax (g : Tr D → D) (gs : List (Tr D → D)) : VH := fun E call t h => Zh6 call (g t) (Zkv gs t) h
def Zyz (f : Opd) (gs : List (Tr D → D)) : VH :=
  match f with
  | .d (.v (.func (.func n) ⟨[]⟩ ⟨[]⟩)) => Z9 n gs
  | f => Zax (fe f) gs
theorem Z2k (f : Opd) (args : List Opd) (E : Env) (call : Call) (t : Tr D) (h : H) : Zyz f (args.map fe) E call t h = Zlp f args E call (act t) h := by
  unfold Zyz
  split
  · simp [Z9, Zlp, AAct.eval, Zh6, Ztq]
  · simp only [Zax, Zlp, Ztq, X1]
def Zdj (fn : Fn) (xs ys : List (Tr D → D)) : VH := fun E call t h => .ok (.func fn (Zkv xs t) (Zkv ys t)) h
def Zqv (b : Builtin) (ts : Array TypeId) (ty : TypeId) (cs : Array Bool) (gs : List (Tr D → D)) : VH := fun E call t h =>
  match Zex (Zkv gs t) with
  | some vs => match Zeo E.P (builtin b ts ty cs vs.toArray) with
    | some (.value v) => .ok (.of v) h
    | _ => .fail "builtin"
  | none => .fail "builtin: args"
def u1 (r : Opd → Env → Call → AAct → H → O D) (g : Tr D → D) : VH := fun E call t h => r (.d (g t)) E call (act t) h
def u2 (r : Opd → Opd → Env → Call → AAct → H → O D) (g1 g2 : Tr D → D) : VH := fun E call t h => r (.d (g1 t)) (.d (g2 t)) E call (act t) h
def u3 (r : Opd → Opd → Opd → Env → Call → AAct → H → O D) (g1 g2 g3 : Tr D → D) : VH := fun E call t h => r (.d (g1 t)) (.d (g2 t)) (.d (g3 t)) E call (act t) h
def og (g : Option (Tr D → D)) (t : Tr D) : Option Opd :=
  match g with
  | some g => some (.d (g t))
  | none => none
def Zyy (x : Option Opd) : Option (Tr D → D) :=
  match x with
  | some x => some (fe x)
  | none => none
def uo (r : Opd → Option Opd → Option Opd → Env → Call → AAct → H → O D) (g : Tr D → D) (lo hi : Option (Tr D → D)) : VH := fun E call t h => r (.d (g t)) (og lo t) (og hi t) E call (act t) h
theorem og_eq (x : Option Opd) (t : Tr D) : (og (Zyy x) t).map (act t).eval = x.map (act t).eval := by
  cases x <;> simp [og, Zyy, AAct.eval, X1]
def Z6d (n : Nat) (s : List Nat) : Option (List Nat) := Nat.rec (motive := fun _ => List Nat → Option (List Nat)) some (fun _ ih s => List.rec (motive := fun _ => Option (List Nat)) none (fun _ r _ => ih r) s) n s
def Z3j (n : Nat) (s : List Nat) : Option (List Nat) := Z6v n s
theorem Zp8 : ∀ (n : Nat) (s : List Nat), Z6d n s = bif Nat.ble n s.length then some (s.drop n) else none
  | 0, s => by
    have e : Nat.ble 0 s.length = true := by rw [Nat.ble_eq]; exact Nat.zero_le _
    rw [e]; rfl
  | n + 1, [] => rfl
  | n + 1, b :: r => (Zp8 n r).trans rfl
theorem Z3i (n : Nat) (s : List Nat) : Z3j n s = bif Nat.ble n s.length then some (s.take n) else none := by
  rw [Z3j, Zjl, List.length_take]
  have : Nat.beq (min n s.length) n = Nat.ble n s.length := by
    rw [Bool.eq_iff_iff, Nat.beq_eq, Nat.ble_eq]; omega
  rw [this]
def XQ (g : Tr D → D) (lo hi : Option (Tr D → D)) : VH := fun E call t h =>
  match g t with
  | .str s => (match hi with
    | none => (match lo with
      | none => .ok (.str s) h
      | some l => (match l t with
        | .int _ (.ofNat n) => (match Z6d n s with
          | some r => .ok (.str r) h
          | none => .fail "slice: string")
        | _ => .fail "slice: string"))
    | some k => (match k t with
      | .int _ (.ofNat n) => (match Z3j n s with
        | some r => (match lo with
          | none => .ok (.str r) h
          | some l => (match l t with
            | .int _ (.ofNat m) => (match Z6d m r with
              | some q => .ok (.str q) h
              | none => .fail "slice: string")
            | _ => .fail "slice: string"))
        | none => .fail "slice: string")
      | _ => .fail "slice: string"))
  | _ => .fail "slice: string"
theorem Zsh (x : Opd) (lo hi : Option Opd) (E : Env) (call : Call) (t : Tr D) (h : H) : XQ (fe x) (Zyy lo) (Zyy hi) E call t h = Za6 x lo hi E call (act t) h := by
  unfold XQ Za6
  rw [X1]
  cases (act t).eval x
  case str s =>
    cases hi with
    | none =>
      cases lo with
      | none => simp [Zyy, XV, Z21, loD]
      | some l =>
        simp only [Zyy, X1, Option.map_none, Option.map_some, XV, Z21, loD]
        cases (act t).eval l
        case int k n =>
          cases n with
          | ofNat n =>
            simp only [Zp8]
            cases hb : Nat.ble n s.length with
            | false => rfl
            | true =>
              simp only [cond_true]
              rw [List.take_of_length_le (by rw [List.length_drop]; exact Nat.le_refl _)]
          | negSucc n => rfl
        all_goals rfl
    | some k =>
      simp only [Zyy, X1, Option.map_some, XV, Z21]
      cases (act t).eval k
      case int q n =>
        cases n with
        | ofNat n =>
          simp only [Z3i]
          cases hb : Nat.ble n s.length with
          | false => rfl
          | true =>
            have hn : n ≤ s.length := Nat.le_of_ble_eq_true hb
            simp only [cond_true]
            cases lo with
            | none => simp [loD]
            | some l =>
              simp only [Option.map_some, loD, X1]
              cases (act t).eval l
              case int q m =>
                cases m with
                | ofNat m =>
                  simp only [Zp8, List.length_take, Nat.min_eq_left hn]
                  cases Nat.ble m n with
                  | false => rfl
                  | true => simp only [cond_true, List.drop_take]
                | negSucc m => rfl
              all_goals rfl
        | negSucc n => rfl
      all_goals rfl
  all_goals rfl
def Zcp : COp → VH
  | .mv x => Yf (fe x)
  | .mvs x => u1 Zmk (fe x)
  | .pick c x y => Zu (fe c) (fe x) (fe y)
  | .alloc t z => Za t z
  | .box t x => Ye t (fe x)
  | .build z ps => Zy z (Ztm ps)
  | .buildSl e n z ps => Zn e n z (Ztm ps)
  | .ld1 x => ZJ (fe x)
  | .ldN n x => Zi n (fe x)
  | .st n x y => Ze n (fe x) (fe y)
  | .nilCheck x => u1 Wt (fe x)
  | .bin op t ox oy x y => fbin op t ox oy (fe x) (fe y)
  | .un op x => u1 (Zo9 op) (fe x)
  | .cint k x => Xq k (fe x)
  | .s2b e x => u1 (Zvj e) (fe x)
  | .b2s x => u1 Zkd (fe x)
  | .conv s t x => u1 (Zgg s t) (fe x)
  | .iface t x => u1 (XF t) (fe x)
  | .mkf fn xs ys => Zdj fn (xs.map fe) (ys.map fe)
  | .mkmap => Zdi
  | .mksl e s b z l c => u2 (Zbq e s b z) (fe l) (fe c)
  | .slstr x lo hi => XQ (fe x) (Zyy lo) (Zyy hi)
  | .slsl s x lo hi => uo (Zav s) (fe x) (Zyy lo) (Zyy hi)
  | .slarr n s x lo hi => uo (VW n s) (fe x) (Zyy lo) (Zyy hi)
  | .fa n x => u1 (Zcq n) (fe x)
  | .fld ag off n x => u1 (Uj ag off n) (fe x)
  | .ixa n s x i => u2 (Zz1 n s) (fe x) (fe i)
  | .ixs s x i => u2 (Vw s) (fe x) (fe i)
  | .idxa ag n s x i => u2 (Zgf ag n s) (fe x) (fe i)
  | .idxs x i => u2 Xs (fe x) (fe i)
  | .apps e s x => u2 (Zpd e) (fe s) (fe x)
  | .lookV kt z x k ok => u2 (fun x k => VY kt z x k ok) (fe x) (fe k)
  | .msetV kt m k x => u3 (UT kt) (fe m) (fe k) (fe x)
  | .look f z x k ok => u2 (fun x k => Zde f z x k ok) (fe x) (fe k)
  | .mset f m k x => u3 (Zbp f) (fe m) (fe k) (fe x)
  | .tas t z x ok => u1 (fun x => Zmj t z x ok) (fe x)
  | .ext i x => u1 (Zmm i) (fe x)
  | .call f args => Zyz f (args.map fe)
  | .app e n b s x => u2 (YE e n b) (fe s) (fe x)
  | .lens x => u1 Va (fe x)
  | .len x => u1 V6 (fe x)
  | .lenm x => u1 Zes (fe x)
  | .copy n d s => u2 (Zpb n) (fe d) (fe s)
  | .bi b ts t cs args => Zqv b ts t cs (args.map fe)
  | .panic x => u1 US (fe x)
  | .dfr x => u1 Zpa (fe x)
  | .rcv => fun E call t h => Zvk E call (act t) h
theorem Zl0 (o : COp) (E : Env) (call : Call) (t : Tr D) (h : H) : Zcp o E call t h = Ww o E call (act t) h := by
  cases o
  case bin op ty ox oy x y => exact (fbin_eq op ty ox oy _ _ E call t h).trans (by simp only [X1]; rfl)
  case ld1 x => exact Z0m _ E call t h x (X1 x t).symm
  case ldN n x => exact Z0l n _ E call t h x (X1 x t).symm
  case st n x y => exact fst1_eq n _ _ E call t h x y (X1 x t).symm (X1 y t).symm
  case call f args => exact Z2k f args E call t h
  case build z ps => simp only [Zcp, Zy, Ww, UU, Zfj, Zp7]; rfl
  case buildSl e n z ps => simp only [Zcp, Zn, Ww, Vx, Zfj, Zp7, Zac]; cases Zb9 (act t) z ps <;> rfl
  case mkf fn xs ys => simp only [Zcp, Zdj, Ww, Zml, Ztq]
  case bi b ts ty cs args => simp only [Zcp, Zqv, Ww, Zvr, Ztq]; rfl
  case alloc ty z => simp only [Zcp, Za, Ww, Zcy, Zac]
  case box ty x => simp only [Zcp, Ye, Ww, Zmn, Zac, X1, Zbc]
  case mkmap => simp only [Zcp, Zdi, Ww, Zcx, Zac]
  case slstr x lo hi => exact Zsh x lo hi E call t h
  case slsl s x lo hi => simp only [Zcp, uo, Ww, Zr0, UV, og_eq, X1, AAct.eval]
  case ixs => simp only [Zcp, u2, X1, Zvo]; rfl
  case idxs => simp only [Zcp, u2, X1, Zr3]; rfl
  case lens => simp only [Zcp, u1, X1, Zr2]; rfl
  case fld => simp only [Zcp, u1, X1, Zvp]; rfl
  case fa => simp only [Zcp, u1, X1, Zz2]; rfl
  case ext => simp only [Zcp, u1, X1, Zvq]; rfl
  case app => simp only [Zcp, u2, X1, Zvt]; rfl
  case apps => simp only [Zcp, u2, X1, Z18]; rfl
  case look => simp only [Zcp, u2, X1, Z17]; rfl
  case mset => simp only [Zcp, u3, X1, Z16]; rfl
  case mksl => simp only [Zcp, u2, X1, Zr1]; rfl
  case s2b => simp only [Zcp, u1, X1, Z4y]; rfl
  case b2s => simp only [Zcp, u1, X1, Zvs]; rfl
  case ixa => simp only [Zcp, u2, X1, Z4z]; rfl
  case idxa => simp only [Zcp, u2, X1, Zr4]; rfl
  case slarr n s x lo hi => simp only [Zcp, uo, Ww, VW, og_eq, X1, AAct.eval]
  case cint k x =>
    simp only [Zcp, Xq, Ww, Zgh, X1, Znt]; cases (act t).eval x <;> rfl
  case pick c x y =>
    simp only [Zcp, Zu, Ww, Zge, X1]
    cases (act t).eval c <;> try rfl
    rename_i v
    cases v <;> try rfl
    rename_i b
    cases b <;> rfl
  case nilCheck => simp only [Zcp, u1, X1, Zhs]; rfl
  case len => simp only [Zcp, u1, X1, Zvn]; rfl
  case un => simp only [Zcp, u1, X1, Z8q]; rfl
  case mv x => simp only [Zcp, Yf, Ww, Zvl, X1]
  all_goals first
    | rfl
    | (simp only [Zcp, u1, u2, u3, X1]; rfl)
end
end Go.Abs
namespace Go.Abs
noncomputable section
def Ok (x : XT) (y : X) : Prop :=
  match x with
  | .out e t h => y = .out e (act t) h
  | .panic d h => ∃ a : AAct, y = .panic d a h ∧ a.defers = []
  | .fail _ => True
abbrev FR := Env → Call → Tr D → H → XT
abbrev FD := Env → Call → List Rec → Tr D → H → XT
abbrev FC := Env → Call → Nat → Tr D → H → XT
def Z2 : FR := fun E call t h => .out .normal t h
def fo (f : VH) (p : D → Tr D → Tr D) (k : FR) : FR := fun E call t h => O.rec (motive := fun _ => XT) (fun d h' => k E call (p d t) h') (fun d h' => .panic d h') (fun w => .fail w) (f E call t h)
def wanted (d : D) (want : Bool) : Bool := dBb d (fun b => Bool.rec (motive := fun _ => Bool) (Bool.rec (motive := fun _ => Bool) true false want) want b) false
def Zr (g : Tr D → D) (want : Bool) (f : VH) (p : D → Tr D → Tr D) (k : FR) : FR := fun E call t h =>
  Bool.rec (motive := fun _ => XT) (k E call (p Zj t) h) (fo f p k E call t h) (wanted (g t) want)
def Zto : List CO → FR
  | [] => Z2
  | o :: r => match o.guard with
    | none => fo (Zcp o.op) (Zfh o.dst) (Zto r)
    | some (t, w) => Zr (gF (t + 1) t) w (Zcp o.op) (Zfh o.dst) (Zto r)
theorem Zmc {o : CO} {t : Tr D} (hg : o.guard = none) : Yi (act t) o = true := by simp [Yi, hg]
theorem Zcs {o : CO} {t : Tr D} {n : Nat} {w : Bool} (hg : o.guard = some (n, w)) : Yi (act t) o = wanted (gF (n + 1) n t) w := by
  simp only [Yi, hg, Zsg _ _ t (Nat.lt_succ_self n)]
  show (match t.get n with
    | some (.v (.bool b)) => bif b then w else !w
    | _ => false) = _
  cases t.get n with
  | none => rfl
  | some d =>
    cases d <;> try rfl
    rename_i x
    cases x <;> try rfl
    rename_i b
    cases b <;> cases w <;> rfl
theorem Ztn (E : Env) (call : Call) : ∀ (l : List CO) (t : Tr D) (h : H), Ok (Zto l E call t h) (YQ E call l (act t) h)
  | [], t, h => rfl
  | o :: r, t, h => by
    have key : Yi (act t) o = true → Ok (fo (Zcp o.op) (Zfh o.dst) (Zto r) E call t h) (YQ E call (o :: r) (act t) h) := by
      intro hw
      simp only [fo, Zl0, YQ, hw, cond_true]
      split
      · rename_i f he
        simp only [he, Ww, Zpa, Ok]
      · show Ok (O.rec (motive := fun _ => XT) (fun d h' => Zto r E call (Zfh o.dst d t) h') (fun d h' => .panic d h') (fun w => .fail w) (Ww o.op E call (act t) h)) (match Zce E call (act t) o.op h with
          | .ok d h => YQ E call r ((act t).put o.dst d) h
          | .panic d h => .panic d (act t) h
          | .fail w => .fail w)
        rw [Zce]
        cases Ww o.op E call (act t) h with
        | ok d h' =>
          show Ok (Zto r E call (Zfh o.dst d t) h') (YQ E call r ((act t).put o.dst d) h')
          rw [← Zc6]; exact Ztn E call r _ _
        | panic d h' => exact ⟨act t, rfl, rfl⟩
        | fail w => exact trivial
    cases hg : o.guard with
    | none => simp only [Zto, hg]; exact key (Zmc hg)
    | some q =>
      obtain ⟨n, w⟩ := q
      simp only [Zto, hg, Zr]
      cases hw : wanted (gF (n + 1) n t) w with
      | true => simp only [cond_true]; exact key ((Zcs hg).trans hw)
      | false =>
        have : Yi (act t) o = false := (Zcs hg).trans hw
        simp only [cond_false, YQ, this]
        rw [← Zc6]; exact Ztn E call r _ _
def Zw : FD := fun E call recs t h => .out .normal t h
def fdbad : FD := fun E call recs t h => .fail "draw"
def Zf (f : VH) (p : D → Tr D → Tr D) (k : FD) : FD := fun E call recs t h => O.rec (motive := fun _ => XT) (fun d h' => k E call recs (p d t) h') (fun _ _ => .fail "draw: panic") (fun w => .fail w) (f E call t h)
def Z6u (o : Option (List D)) (k : List D → XT) (z : XT) : XT := Option.rec (motive := fun _ => XT) z k o
def Xv (i : Nat) (inc : List Nat) (n : Nat) (g : Tr D → D) (f : VH) (p : D → Tr D → Tr D) (k : FD) : FD := fun E call recs t h => O.rec (motive := fun _ => XT)
  (fun d h' => Z6u (Z15 h (g t) n) (fun cs => Bool.rec (motive := fun _ => XT) (.fail "draw: read") (k E call (.rd i (g t) cs :: recs) (p d t) h') (rkF inc (g t) cs recs)) (.fail "draw: cells")) (fun _ _ => .fail "draw: panic") (fun w => .fail w) (f E call t h)
def fdrb (i : Nat) (inc : List Nat) (g : Tr D → D) (f : VH) (p : D → Tr D → Tr D) (k : FD) : FD := fun E call recs t h => O.rec (motive := fun _ => XT)
  (fun d h' => Z6u (Z15 h (Zhr (g t)).1 (Zhr (g t)).2) (fun cs => Bool.rec (motive := fun _ => XT) (.fail "draw: read") (k E call (.rd i (Zhr (g t)).1 cs :: recs) (p d t) h') (rkF inc (Zhr (g t)).1 cs recs)) (.fail "draw: cells")) (fun _ _ => .fail "draw: panic") (fun w => .fail w) (f E call t h)
def Yu (i : Nat) (inc : List Nat) (f : VH) (p : D → Tr D → Tr D) (k : FD) : FD := fun E call recs t h => O.rec (motive := fun _ => XT)
  (fun d h' => Bool.rec (motive := fun _ => XT) (.fail "draw: loud") (k E call (.loud i h :: recs) (p d t) h') (lkF inc h' recs)) (fun _ _ => .fail "draw: panic") (fun w => .fail w) (f E call t h)
def Wi (i : Nat) (inc : List Nat) (f : VH) (p : D → Tr D → Tr D) (k : FD) : FD := fun E call recs t h => O.rec (motive := fun _ => XT)
  (fun d h' => Bool.rec (motive := fun _ => XT) (.fail "draw: loud") (k E call (.loud i h :: recs) (p d t) h') (lkF inc h' recs)) (fun d h' => .panic d h') (fun w => .fail w) (f E call t h)
def Zys : COp → Bool
  | .call .. => true
  | _ => false
def XX (g : Tr D → D) (want : Bool) (y : FD → FD) (p : D → Tr D → Tr D) (k : FD) : FD := fun E call recs t h =>
  Bool.rec (motive := fun _ => XT) (k E call recs (p Zj t) h) (y k E call recs t h) (wanted (g t) want)
def fdop (i : Nat) (inc : List Nat) (lt : Bool) (o : CO) : FD → FD :=
  match o.op with
  | .ld1 x => Xv i inc 1 (fe x) (Zcp o.op) (Zfh o.dst)
  | .ldN n x => Xv i inc n (fe x) (Zcp o.op) (Zfh o.dst)
  | .b2s x => fdrb i inc (fe x) (Zcp o.op) (Zfh o.dst)
  | _ => bif Xg o.op then (bif lt && Zys o.op then Wi i inc (Zcp o.op) (Zfh o.dst) else Yu i inc (Zcp o.op) (Zfh o.dst)) else Zf (Zcp o.op) (Zfh o.dst)
def Zh5 : Nat → List (List Nat) → List CO → FD
  | _, _, [] => Zw
  | _, [], _ :: _ => fdbad
  | i, inc :: incs, o :: r => match o.guard with
    | none => fdop i inc (later i incs) o (Zh5 (i + 1) incs r)
    | some (t, w) => XX (gF (t + 1) t) w (fdop i inc (later i incs) o) (Zfh o.dst) (Zh5 (i + 1) incs r)
theorem Zwu (E : Env) (call : Call) : ∀ (l : List CO) (i : Nat) (recs : List Rec) (incs : List (List Nat)) (t : Tr D) (h : H), Ok (Zh5 i incs l E call recs t h) (Xd E call i recs incs l (act t) h)
  | [], i, recs, incs, t, h => by cases incs <;> rfl
  | o :: r, i, recs, [], t, h => trivial
  | o :: r, i, recs, inc :: incs, t, h => by
    have ih := fun recs t h => Zwu E call r (i + 1) recs incs t h
    have key : Yi (act t) o = true → Ok (fdop i inc (later i incs) o (Zh5 (i + 1) incs r) E call recs t h) (Xd E call i recs (inc :: incs) (o :: r) (act t) h) := by
      intro hw
      have rd : ∀ n x, Xz (act t) o.op = some ((act t).eval x, n) → Ok (Xv i inc n (fe x) (Zcp o.op) (Zfh o.dst) (Zh5 (i + 1) incs r) E call recs t h) (Xd E call i recs (inc :: incs) (o :: r) (act t) h) := by
        intro n x hr
        simp only [Xv, Zau, Zeq, Zl0, Xd, hw, cond_true, Zce]
        cases Ww o.op E call (act t) h with
        | ok d h' =>
          simp only [hr, X1]
          cases Zk h ((act t).eval x) n with
          | none => exact trivial
          | some cs =>
            simp only [Z6u]
            cases XP inc ((act t).eval x) cs recs with
            | false => exact trivial
            | true => simp only [cond_true]; rw [← Zc6]; exact ih _ _ _
        | panic d h' => exact trivial
        | fail w => exact trivial
      have rb : ∀ x, Xz (act t) o.op = some (Zhr ((act t).eval x)) → Ok (fdrb i inc (fe x) (Zcp o.op) (Zfh o.dst) (Zh5 (i + 1) incs r) E call recs t h) (Xd E call i recs (inc :: incs) (o :: r) (act t) h) := by
        intro x hr
        simp only [fdrb, Zau, Zeq, Zl0, Xd, hw, cond_true, Zce]
        cases Ww o.op E call (act t) h with
        | ok d h' =>
          simp only [hr, X1]
          cases Zk h (Zhr ((act t).eval x)).1 (Zhr ((act t).eval x)).2 with
          | none => exact trivial
          | some cs =>
            simp only [Z6u]
            cases XP inc (Zhr ((act t).eval x)).1 cs recs with
            | false => exact trivial
            | true => simp only [cond_true]; rw [← Zc6]; exact ih _ _ _
        | panic d h' => exact trivial
        | fail w => exact trivial
      have oth : Xz (act t) o.op = none → Ok ((bif Xg o.op then (bif later i incs && Zys o.op then Wi i inc (Zcp o.op) (Zfh o.dst) else Yu i inc (Zcp o.op) (Zfh o.dst)) else Zf (Zcp o.op) (Zfh o.dst)) (Zh5 (i + 1) incs r) E call recs t h) (Xd E call i recs (inc :: incs) (o :: r) (act t) h) := by
        intro hr
        cases hl : Xg o.op with
        | true =>
          cases hb : later i incs && Zys o.op with
          | false =>
            simp only [cond_true, cond_false, Yu, Zdh, Zl0, Xd, hw, Zce]
            cases Ww o.op E call (act t) h with
            | ok d h' =>
              simp only [hr, hl, cond_true]
              cases Xm inc h' recs with
              | false => exact trivial
              | true => simp only [cond_true]; rw [← Zc6]; exact ih _ _ _
            | panic d h' => exact trivial
            | fail w => exact trivial
          | true =>
            simp only [Bool.and_eq_true] at hb
            simp only [cond_true, Wi, Zdh, Zl0, Xd, hw, Zce]
            cases Ww o.op E call (act t) h with
            | ok d h' =>
              simp only [hr, hl, cond_true]
              cases Xm inc h' recs with
              | false => exact trivial
              | true => simp only [cond_true]; rw [← Zc6]; exact ih _ _ _
            | panic d h' =>
              have h0 : Z5x (act t).defers = true := rfl
              simp only [hl, hb.1, h0, Bool.true_or, Bool.and_self, cond_true]
              exact ⟨act t, rfl, rfl⟩
            | fail w => exact trivial
        | false =>
          simp only [cond_true, cond_false, Zf, Zl0, Xd, hw, Zce]
          cases Ww o.op E call (act t) h with
          | ok d h' => simp only [hr, hl, cond_false]; rw [← Zc6]; exact ih _ _ _
          | panic d h' => exact trivial
          | fail w => exact trivial
      obtain ⟨od, og, oo⟩ := o
      cases oo with
      | ld1 x => exact rd 1 x rfl
      | ldN n x => exact rd n x rfl
      | b2s x => exact rb x rfl
      | _ => exact oth rfl
    cases hg : o.guard with
    | none => simp only [Zh5, hg]; exact key (Zmc hg)
    | some q =>
      obtain ⟨n, w⟩ := q
      simp only [Zh5, hg, XX]
      cases hw : wanted (gF (n + 1) n t) w with
      | true => simp only [cond_true]; exact key ((Zcs hg).trans hw)
      | false =>
        have : Yi (act t) o = false := (Zcs hg).trans hw
        simp only [cond_false, Xd, this]
        rw [← Zc6]; exact ih _ _ _
def Z8 : FC := fun E call n t h => Nat.rec (motive := fun _ => XT) (.fail "fuel") (fun _ _ => .out .normal t h) n
def ZL (id : Nat) : FC := fun E call n t h => Nat.rec (motive := fun _ => XT) (.fail "fuel") (fun _ _ => .out (.exit id) t h) n
def Zb : FC := fun E call n t h => Nat.rec (motive := fun _ => XT) (.fail "fuel") (fun _ _ => .out .ret t h) n
def fbad : FC := fun E call n t h => .fail "bad"
def Z1 (r : FR) : FC := fun E call n t h => Nat.rec (motive := fun _ => XT) (.fail "fuel") (fun _ _ => r E call t h) n
def Zv (r : FD) : FC := fun E call n t h => Nat.rec (motive := fun _ => XT) (.fail "fuel") (fun _ _ => r E call [] t h) n
def Z0 (x y : FC) : FC := fun E call n t h => Nat.rec (motive := fun _ => XT) (.fail "fuel") (fun n _ => XT.rec (motive := fun _ => XT) (fun e t h => AExit.rec (motive := fun _ => XT) (y E call n t h) (fun id => .out (.exit id) t h) (.out .ret t h) e) (fun d h => .panic d h) (fun w => .fail w) (x E call n t h)) n
def Z7 (g : Tr D → D) (x y : FC) : FC := fun E call n t h => Nat.rec (motive := fun _ => XT) (.fail "fuel") (fun n _ => dBX (g t) (fun b => Bool.rec (motive := fun _ => XT) (y E call n t h) (x E call n t h) b) (.fail "cond")) n
def Zc (id : Nat) (x : FC) : FC := fun E call n t h => Nat.rec (motive := fun _ => XT) (.fail "fuel") (fun n _ => XT.rec (motive := fun _ => XT) (fun e t h => AExit.rec (motive := fun _ => XT) (.out .normal t h) (fun k => Bool.rec (motive := fun _ => XT) (.out (.exit k) t h) (.out .normal t h) (Nat.beq k id)) (.out .ret t h) e) (fun d h => .panic d h) (fun w => .fail w) (x E call n t h)) n
def ZI (x : FC) (E : Env) (call : Call) (n : Nat) : Tr D → H → XT := Nat.rec (motive := fun _ => Tr D → H → XT) (fun _ _ => .fail "fuel") (fun n ih t h => XT.rec (motive := fun _ => XT) (fun e t h => AExit.rec (motive := fun _ => XT) (ih t h) (fun k => .out (.exit k) t h) (.out .ret t h) e) (fun d h => .panic d h) (fun w => .fail w) (x E call n t h)) n
theorem Zfi (x : FC) (E : Env) (call : Call) (n : Nat) (t : Tr D) (h : H) : ZI x E call (n + 1) t h = XT.rec (motive := fun _ => XT) (fun e t h => AExit.rec (motive := fun _ => XT) (ZI x E call n t h) (fun k => .out (.exit k) t h) (.out .ret t h) e) (fun d h => .panic d h) (fun w => .fail w) (x E call n t h) := rfl
def WB : CC → FC
  | .skip => Z8
  | .ops l => Z1 (Zto l)
  | .draw inc l => Zv (Zh5 0 inc l)
  | .seq a b => Z0 (WB a) (WB b)
  | .cond c a b => Z7 (fe c) (WB a) (WB b)
  | .block id c => Zc id (WB c)
  | .loop c => ZI (WB c)
  | .exit id => ZL id
  | .ret => Zb
  | .stop => fbad
  | .back .. => fbad
theorem Zwv (E : Env) (call : Call) : ∀ (c : CC) (n : Nat) (t : Tr D) (h : H), Ok (WB c E call n t h) (ZN E call n c (act t) h) := by
  intro c
  induction c with
  | skip => intro n t h; cases n <;> first | trivial | rfl
  | ops l => intro n t h; cases n with
    | zero => trivial
    | succ n => exact Ztn E call l t h
  | draw inc l => intro n t h; cases n with
    | zero => trivial
    | succ n => exact Zwu E call l 0 [] inc t h
  | seq a b iha ihb =>
    intro n t h
    cases n with
    | zero => trivial
    | succ n =>
      have h1 := iha n t h
      simp only [WB, Z0, ZN]
      cases hx : WB a E call n t h with
      | out e t' h' =>
        rw [hx] at h1
        have h1 : ZN E call n a (act t) h = .out e (act t') h' := h1
        rw [h1]
        cases e with
        | normal => exact ihb n t' h'
        | exit id => rfl
        | ret => rfl
      | panic d h' =>
        rw [hx] at h1
        obtain ⟨a', h2, h3⟩ := h1
        rw [h2]; exact ⟨a', rfl, h3⟩
      | fail w => trivial
  | cond c a b iha ihb =>
    intro n t h
    cases n with
    | zero => trivial
    | succ n =>
      simp only [WB, Z7, ZN, X1]
      cases (act t).eval c <;> try trivial
      rename_i v
      cases v <;> try trivial
      rename_i b'
      cases b' with
      | true => exact iha n t h
      | false => exact ihb n t h
  | block id a iha =>
    intro n t h
    cases n with
    | zero => trivial
    | succ n =>
      have h1 := iha n t h
      simp only [WB, Zc, ZN]
      cases hx : WB a E call n t h with
      | out e t' h' =>
        rw [hx] at h1
        have h1 : ZN E call n a (act t) h = .out e (act t') h' := h1
        rw [h1]
        cases e with
        | normal => rfl
        | exit k => simp only []; cases Nat.beq k id <;> rfl
        | ret => rfl
      | panic d h' =>
        rw [hx] at h1
        obtain ⟨a', h2, h3⟩ := h1
        rw [h2]; exact ⟨a', rfl, h3⟩
      | fail w => trivial
  | loop a iha =>
    intro n
    induction n with
    | zero => intro t h; trivial
    | succ n ihn =>
      intro t h
      have h1 := iha n t h
      simp only [WB, Zfi, ZN]
      cases hx : WB a E call n t h with
      | out e t' h' =>
        rw [hx] at h1
        have h1 : ZN E call n a (act t) h = .out e (act t') h' := h1
        rw [h1]
        cases e with
        | normal => exact ihn t' h'
        | exit k => rfl
        | ret => rfl
      | panic d h' =>
        rw [hx] at h1
        obtain ⟨a', h2, h3⟩ := h1
        rw [h2]; exact ⟨a', rfl, h3⟩
      | fail w => trivial
  | exit id => intro n t h; cases n <;> first | trivial | rfl
  | ret => intro n t h; cases n <;> first | trivial | rfl
  | stop => intro n t h; trivial
  | back => intro n t h; trivial
abbrev ZE := Env → Nat → Call → List D → H → O D
def fres : List CRes → Tr D → H → O D
  | [] => fun t h => .ok (.tup []) h
  | [.t a] => fun t h => .ok (gF (a + 1) a t) h
  | [.t a, .t b] => fun t h => .ok (.tup [gF (a + 1) a t, gF (b + 1) b t]) h
  | [.t a, .t b, .t c] => fun t h => .ok (.tup [gF (a + 1) a t, gF (b + 1) b t, gF (c + 1) c t]) h
  | l => fun t h => YH ⟨l, .skip⟩ (act t) h
theorem geq (a : Nat) (t : Tr D) : gF (a + 1) a t = (act t).eval (.t a) := X1 (.t a) t
theorem Z0j (l : List CRes) (c : CC) (t : Tr D) (h : H) : fres l t h = Zan ⟨l, c⟩ (act t) h := by
  unfold fres
  split <;> simp only [Znr, Zan, WE, Z5e, geq]
def Zc7 (i : Nat) (ss : List (D → Tr D → Tr D)) (xs : List D) (t : Tr D) : Tr D := List.rec (motive := fun _ => Nat → List (D → Tr D → Tr D) → Tr D → Tr D) (fun _ _ t => t) (fun x xs ih i ss t => List.rec (motive := fun _ => Tr D) (Tr.ofListFrom i (x :: xs) t) (fun s ss _ => ih (Nat.succ i) ss (s x t)) ss) xs i ss t
def Zx0 : Nat → Nat → List (D → Tr D → Tr D)
  | 0, _ => []
  | k + 1, i => pF (i + 1) i :: Zx0 k (i + 1)
theorem Zww : ∀ (xs : List D) (k i : Nat) (t : Tr D), Zc7 i (Zx0 k i) xs t = Tr.ofListFrom i xs t
  | [], k, i, t => by cases k <;> rfl
  | x :: xs, 0, i, t => rfl
  | x :: xs, k + 1, i, t => by
    show Zc7 (i + 1) (Zx0 k (i + 1)) xs (pF (i + 1) i x t) = _
    rw [Zww xs k (i + 1), Zr7]; rfl
def Y5 (ss : List (D → Tr D → Tr D)) (res : Tr D → H → O D) (body : FC) : ZE := fun E n call args h => XT.rec (motive := fun _ => O D) (fun e t h => AExit.rec (motive := fun _ => O D) (res t h) (fun _ => .fail "exit") (res t h) e) (fun d h => .panic d h) (fun w => .fail w) (body E call n (Zc7 0 ss args .nil) h)
def Z57 (k : Nat) (c : CFn) : ZE := Y5 (Zx0 k 0) (fres c.results) (WB c.body)
def Zc5 (c : CFn) : ZE := fun E n call args h => match ZN E call n c.body (start args none) h with
  | .out e a h => match e with
    | .exit _ => .fail "exit"
    | _ => U9 E call n c none a h
  | .panic d a h => U9 E call n c (some d) a h
  | .fail w => .fail w
def Wv (g : List D → H → O D) : ZE := fun E n call args h => g args h
def Xr (E : Env) (T : Nat → ZE) (n : Nat) : Call := Nat.rec (motive := fun _ => Call) (fun f args h => .fail "fuel") (fun n ih f args h => T f E n ih args h) n
def Zcn (o : O D) : Prop :=
  match o with
  | .fail _ => False
  | _ => True
theorem fcfn_ok (E : Env) (k : Nat) (c : CFn) (n : Nat) (call : Call) (args : List D) (h : H) (hn : Zcn (Z57 k c E n call args h)) : Z57 k c E n call args h = Zc5 c E n call args h := by
  have hs : start args none = act (Zc7 0 (Zx0 k 0) args .nil) := by rw [Zww]; rfl
  have h1 := Zwv E call c.body n (Zc7 0 (Zx0 k 0) args .nil) h
  rw [← hs] at h1
  simp only [Z57, Y5, Zc5] at hn ⊢
  cases hx : WB c.body E call n (Zc7 0 (Zx0 k 0) args .nil) h with
  | out e t' h' =>
    rw [hx] at h1 hn
    have h1 : ZN E call n c.body (start args none) h = .out e (act t') h' := h1
    rw [h1]
    cases e with
    | normal => exact Z0j c.results c.body t' h'
    | exit id => exact hn.elim
    | ret => exact Z0j c.results c.body t' h'
  | panic d h' =>
    rw [hx] at h1
    obtain ⟨a', h2, h3⟩ := h1
    rw [h2]
    simp only [U9, h3]
  | fail w => rw [hx] at hn; exact hn.elim
end
end Go.Abs
namespace Go.Abs
noncomputable section
def Zfp (call call' : Call) : Prop := ∀ f ds h, Zcn (call f ds h) → call' f ds h = call f ds h
def Zag (x : X) : Prop :=
  match x with
  | .fail _ => False
  | _ => True
section
variable {E : Env} {call call' : Call}
theorem Zy8 (hb : Zfp call call') (f : D) (args : List D) (h : H) (hn : Zcn (Zh6 call f args h)) : Zh6 call' f args h = Zh6 call f args h := by
  unfold Zh6 at hn ⊢
  split
  · exact hb _ _ _ hn
  · exact hb _ _ _ hn
  · rfl
theorem Zwy (hb : Zfp call call') (o : COp) (a : AAct) (h : H) (hn : Zcn (Ww o E call a h)) : Ww o E call' a h = Ww o E call a h := by
  cases o
  case call f args => exact Zy8 hb _ _ _ hn
  all_goals rfl
theorem U7 (hb : Zfp call call') : ∀ (l : List CO) (a : AAct) (h : H), Zag (YQ E call l a h) → YQ E call' l a h = YQ E call l a h
  | [], a, h, hn => rfl
  | o :: r, a, h, hn => by
    simp only [YQ] at hn ⊢
    cases hw : Yi a o with
    | false =>
      simp only [hw, cond_false] at hn ⊢
      exact U7 hb r _ _ hn
    | true =>
      simp only [hw, cond_true] at hn ⊢
      have oth : ∀ op : COp, Zag (match Zce E call a op h with
          | .ok d h => YQ E call r (a.put o.dst d) h
          | .panic d h => .panic d a h
          | .fail w => .fail w) → (match Zce E call' a op h with
          | .ok d h => YQ E call' r (a.put o.dst d) h
          | .panic d h => .panic d a h
          | .fail w => .fail w) = (match Zce E call a op h with
          | .ok d h => YQ E call r (a.put o.dst d) h
          | .panic d h => .panic d a h
          | .fail w => .fail w) := by
        intro op hn
        unfold Zce at hn ⊢
        have hnf : Zcn (Ww op E call a h) := by
          cases hd : Ww op E call a h with
          | ok d h' => trivial
          | panic d h' => trivial
          | fail w => rw [hd] at hn; exact hn.elim
        rw [Zwy hb op a h hnf]
        cases hd : Ww op E call a h with
        | ok d h' => rw [hd] at hn; exact U7 hb r _ _ hn
        | panic d h' => rfl
        | fail w => rfl
      cases ho : o.op
      case dfr f =>
        simp only [ho] at hn ⊢
        split at hn
        · rename_i g x y he
          first
            | exact U7 hb r _ _ hn
            | (split <;> first | exact U7 hb r _ _ hn | rfl)
        · exact hn.elim
      all_goals
        simp only [ho] at hn ⊢
        rw [← ho] at hn ⊢
        exact oth o.op hn
theorem Zcj (hb : Zfp call call') : ∀ (l : List CO) (i : Nat) (recs : List Rec) (incs : List (List Nat)) (a : AAct) (h : H), Zag (Xd E call i recs incs l a h) → Xd E call' i recs incs l a h = Xd E call i recs incs l a h
  | [], i, recs, incs, a, h, hn => by cases incs <;> rfl
  | o :: r, i, recs, [], a, h, hn => rfl
  | o :: r, i, recs, inc :: incs, a, h, hn => by
    simp only [Xd] at hn ⊢
    cases hw : Yi a o with
    | false =>
      simp only [hw, cond_false] at hn ⊢
      exact Zcj hb r _ _ _ _ _ hn
    | true =>
      simp only [hw, cond_true] at hn ⊢
      unfold Zce at hn ⊢
      have hnf : Zcn (Ww o.op E call a h) := by
        cases hd : Ww o.op E call a h with
        | ok d h' => trivial
        | panic d h' => trivial
        | fail w => rw [hd] at hn; exact hn.elim
      rw [Zwy hb o.op a h hnf]
      cases hd : Ww o.op E call a h with
      | ok d h' =>
        simp only [hd] at hn ⊢
        cases hr : Xz a o.op with
        | some q =>
          obtain ⟨x, n⟩ := q
          simp only [hr] at hn ⊢
          cases hc : Zk h x n with
          | none => rfl
          | some cs =>
            simp only [hc] at hn ⊢
            cases hk : XP inc x cs recs with
            | false => rfl
            | true => simp only [hk, cond_true] at hn ⊢; exact Zcj hb r _ _ _ _ _ hn
        | none =>
          simp only [hr] at hn ⊢
          cases hl : Xg o.op with
          | true =>
            simp only [hl, cond_true] at hn ⊢
            cases hk : Xm inc h' recs with
            | false => rfl
            | true => simp only [hk, cond_true] at hn ⊢; exact Zcj hb r _ _ _ _ _ hn
          | false => simp only [hl, cond_false] at hn ⊢; exact Zcj hb r _ _ _ _ _ hn
      | panic d h' => rfl
      | fail w => rfl
theorem Zqj {run run' : AAct → H → X} (hr : ∀ a h, Zag (run a h) → run' a h = run a h) (mk : Nat → D → AAct) (a : AAct) : ∀ (l : List (Nat × D)) (h : H), Zag (Zk4 run mk a l h) → Zk4 run' mk a l h = Zk4 run mk a l h
  | [], h, hn => rfl
  | (i, d) :: r, h, hn => by
    simp only [Zk4] at hn ⊢
    have hnf : Zag (run (mk i d) h) := by
      cases hd : run (mk i d) h with
      | out e a h' => trivial
      | panic d h' => trivial
      | fail w => rw [hd] at hn; exact hn.elim
    rw [hr _ _ hnf]
    cases hd : run (mk i d) h with
    | out e a' h' =>
      rw [hd] at hn
      cases e with
      | normal => exact Zqj hr mk a r h' hn
      | exit id => rfl
      | ret => rfl
    | panic d h' => rfl
    | fail w => rfl
theorem WX (hb : Zfp call call') : ∀ (n : Nat) (c : CC) (a : AAct) (h : H), Zag (ZN E call n c a h) → ZN E call' n c a h = ZN E call n c a h
  | 0, c, a, h, hn => rfl
  | n + 1, c, a, h, hn => by
    have nf : ∀ (c : CC) (a : AAct) (h : H) (k : X → X), (∀ w, k (.fail w) = .fail w) → Zag (k (ZN E call n c a h)) → ZN E call' n c a h = ZN E call n c a h := fun c a h k hk hn => by
      refine WX hb n c a h ?_
      cases hd : ZN E call n c a h with
      | out e a h' => trivial
      | panic d h' => trivial
      | fail w => rw [hd, hk] at hn; exact hn.elim
    cases c with
    | skip => rfl
    | ops l => exact U7 hb l a h hn
    | draw inc l => exact Zcj hb l 0 [] inc a h hn
    | seq x y =>
      simp only [ZN] at hn ⊢
      rw [nf x a h (fun r => match r with
        | .out .normal a h => ZN E call n y a h
        | r => r) (fun _ => rfl) hn]
      cases hd : ZN E call n x a h with
      | out e a' h' =>
        rw [hd] at hn
        cases e with
        | normal => exact WX hb n y a' h' hn
        | exit id => rfl
        | ret => rfl
      | panic d h' => rfl
      | fail w => rfl
    | cond c x y =>
      simp only [ZN] at hn ⊢
      split
      · rename_i b he
        simp only [he] at hn
        cases b with
        | true => exact WX hb n x a h hn
        | false => exact WX hb n y a h hn
      · rfl
    | block id x =>
      simp only [ZN] at hn ⊢
      rw [nf x a h (fun r => match r with
        | .out (.exit k) a h => bif Nat.beq k id then .out .normal a h else .out (.exit k) a h
        | r => r) (fun _ => rfl) hn]
    | loop x =>
      simp only [ZN] at hn ⊢
      rw [nf x a h (fun r => match r with
        | .out .normal a h => ZN E call n (.loop x) a h
        | r => r) (fun _ => rfl) hn]
      cases hd : ZN E call n x a h with
      | out e a' h' =>
        rw [hd] at hn
        cases e with
        | normal => exact WX hb n (.loop x) a' h' hn
        | exit id => rfl
        | ret => rfl
      | panic d h' => rfl
      | fail w => rfl
    | exit id => rfl
    | ret => rfl
    | stop => rfl
    | back ag size gs f x y assign body =>
      simp only [ZN] at hn ⊢
      split
      · rename_i gg p he
        simp only [he] at hn
        cases hm : YR gg gs with
        | false => rfl
        | true =>
          simp only [hm, cond_true] at hn ⊢
          split
          · rename_i s hs
            simp only [hs] at hn
            split
            · rename_i k cs hk
              simp only [hk] at hn
              refine Zqj (fun a h hn => ?_) _ a _ h hn
              rw [nf assign a h (fun r => match r with
                | .out .normal a h => ZN E call n body a h
                | r => r) (fun _ => rfl) hn]
              cases hd : ZN E call n assign a h with
              | out e a' h' =>
                rw [hd] at hn
                cases e with
                | normal => exact WX hb n body a' h' hn
                | exit id => rfl
                | ret => rfl
              | panic d h' => rfl
              | fail w => rfl
            · rfl
          · rfl
      · rfl
theorem Zw2 (hb : Zfp call call') (n : Nat) (df : D) (r : Option D) (h h' : H) (hn : Zfm E call n df r h = some h') : Zfm E call' n df r h = some h' := by
  unfold Zfm at hn ⊢
  split
  · split
    · rename_i g x y _ p hp
      simp only [hp] at hn
      have hnf : Zag (ZN E call n p.2 ((start (x ++ y) none).put p.1 (Z8p r)) h) := by
        cases hd : ZN E call n p.2 ((start (x ++ y) none).put p.1 (Z8p r)) h with
        | out e a h' => trivial
        | panic d h' => trivial
        | fail w => rw [hd] at hn; cases hn
      rw [WX hb n _ _ _ hnf]
      exact hn
    · rename_i hp; simp only [hp] at hn; cases hn
  · rename_i hno
    split at hn
    · rename_i g x y; exact absurd rfl (hno g x y)
    · cases hn
theorem Zgy (hb : Zfp call call') (n : Nat) (fn : CFn) (r : Option D) (a : AAct) (h : H) (hn : Zcn (U9 E call n fn r a h)) : U9 E call' n fn r a h = U9 E call n fn r a h := by
  unfold U9 at hn ⊢
  split
  · rfl
  · rename_i df hd
    simp only [hd] at hn
    cases hc : Zfm E call n df r h with
    | none => simp only [hc] at hn; exact hn.elim
    | some h' => rw [Zw2 hb n df r h h' hc]
  · rfl
end
def Zg0 (E : Env) (n : Nat) (call : Call) (f : Nat) (args : List D) (h : H) : O D :=
  match E.lib f with
  | some g => g args h
  | none => match E.fns f with
    | none => .fail ("no function " ++ toString f)
    | some fn => Zc5 fn E n call args h
theorem Zy6 (E : Env) (n f : Nat) (args : List D) (h : H) : Za1 E (n + 1) f args h = Zg0 E n (Za1 E n) f args h := by
  simp only [Za1, Zg0, Zc5]
  cases E.lib f with
  | some g => rfl
  | none => cases E.fns f with
    | none => rfl
    | some fn =>
      simp only []
      cases ZN E (Za1 E n) n fn.body (start args none) h <;> rfl
theorem Zyw {E : Env} {call call' : Call} (hb : Zfp call call') (fn : CFn) (n : Nat) (args : List D) (h : H) (hn : Zcn (Zc5 fn E n call args h)) : Zc5 fn E n call' args h = Zc5 fn E n call args h := by
  unfold Zc5 at hn ⊢
  have hnf : Zag (ZN E call n fn.body (start args none) h) := by
    cases hd : ZN E call n fn.body (start args none) h with
    | out e a h' => trivial
    | panic d h' => trivial
    | fail w => rw [hd] at hn; exact hn.elim
  rw [WX hb n _ _ _ hnf]
  cases hd : ZN E call n fn.body (start args none) h with
  | out e a h' =>
    rw [hd] at hn
    cases e with
    | normal => exact Zgy hb n fn none a h' hn
    | exit id => rfl
    | ret => exact Zgy hb n fn none a h' hn
  | panic d a h' => rw [hd] at hn; exact Zgy hb n fn (some d) a h' hn
  | fail w => rfl
theorem Zy7 {E : Env} {call call' : Call} (hb : Zfp call call') (n f : Nat) (args : List D) (h : H) (hn : Zcn (Zg0 E n call f args h)) : Zg0 E n call' f args h = Zg0 E n call f args h := by
  unfold Zg0 at hn ⊢
  split
  · rfl
  · split
    · rfl
    · rename_i h1 _ fn h2
      simp only [h1, h2] at hn
      exact Zyw hb fn n args h hn
def Zzf (E : Env) (k : Nat) (q : ZE) : Prop := ∀ n call args h, Zcn (q E n call args h) → q E n call args h = Zg0 E n call k args h
def Z43 : ZE := fun E n call args h => .fail "no function"
def Zg (k : Nat) (q : ZE) : Nat → ZE := fun f => Bool.rec (motive := fun _ => ZE) Z43 q (Nat.beq f k)
def Zh (m : Nat) (a b : Nat → ZE) : Nat → ZE := fun f => Bool.rec (motive := fun _ => ZE) (b f) (a f) (Nat.blt f m)
def Z6p (E : Env) (T : Nat → ZE) : Prop := ∀ f, Zzf E f (T f)
theorem Z2g (E : Env) (k : Nat) : Zzf E k Z43 := fun n call args h hn => hn.elim
theorem Z5u {E : Env} {k : Nat} {g : List D → H → O D} (hl : E.lib k = some g) : Zzf E k (Wv g) := fun n call args h hn => by
  simp only [Wv, Zg0, hl]
theorem Z2f {E : Env} {k : Nat} {q : ZE} (hl : E.lib k = none) (hq : (E.fns k).map Zc5 = some q) : Zzf E k q := fun n call args h hn => by
  cases hf : E.fns k with
  | none => rw [hf] at hq; cases hq
  | some fn =>
    rw [hf] at hq
    cases hq
    simp only [Zg0, hl, hf]
theorem Z2h {E : Env} {k m : Nat} {q : ZE} (hl : E.lib k = none) (hq : (E.fns k).map (Z57 m) = some q) : Zzf E k q := fun n call args h hn => by
  cases hf : E.fns k with
  | none => rw [hf] at hq; cases hq
  | some fn =>
    rw [hf] at hq
    cases hq
    simp only [Zg0, hl, hf]
    exact fcfn_ok E m fn n call args h hn
theorem Zca {E : Env} {T : Nat → ZE} (ht : Z6p E T) : ∀ n f args h, Zcn (Xr E T n f args h) → Za1 E n f args h = Xr E T n f args h
  | 0, f, args, h, hn => hn.elim
  | n + 1, f, args, h, hn => by
    have h1 : Xr E T (n + 1) f args h = Zg0 E n (Xr E T n) f args h := ht f n (Xr E T n) args h hn
    rw [h1] at hn
    rw [Zy6, h1]
    exact Zy7 (fun f ds h hn => Zca ht n f ds h hn) n f args h hn
def Zws (P : Program) (glob : Nat → Option (List D)) (f : Nat) : Option CFn :=
  match P.funcs[f]? with
  | some fn => bif fn.name == "runtime.NumGoroutine" then none else cfn P glob none fn
  | none => none
def Zy2 (P : Program) (glob : Nat → Option (List D)) (f : Nat) : Option (Option Nat × CC) :=
  match P.funcs[f]? with
  | some fn => bif fn.name == "runtime.NumGoroutine" then none else cdfr P glob fn
  | none => none
def Zcc (P : Program) (glob : Nat → Option (List D)) (lib : Nat → Option (List D → H → O D)) : Env := ⟨P, Zws P glob, lib, Zy2 P glob⟩
theorem Z7j (P : Program) (glob : Nat → Option (List D)) (lib : Nat → Option (List D → H → O D)) (ho : P.follows .mixedOrders = true) (hlib : ∀ f lf, lib f = some lf → Yc P f lf glob) (hgrow : ∀ f lf, lib f = some lf → ∀ ds h, XZ h (lf ds h)) :
    Told P glob (Zcc P glob lib) where
  prog := rfl
  orders := ho
  fns := fun f cf hf => by
    have hf : Zws P glob f = some cf := hf
    unfold Zws at hf
    split at hf
    · rename_i fn hfn
      cases hn : fn.name == "runtime.NumGoroutine" with
      | true => rw [hn] at hf; cases hf
      | false =>
        rw [hn] at hf
        exact ⟨fn, none, hfn, hn, hf, Zk2⟩
    · cases hf
  dfrs := fun f p hf => by
    have hf : Zy2 P glob f = some p := hf
    unfold Zy2 at hf
    split at hf
    · rename_i fn hfn
      cases hn : fn.name == "runtime.NumGoroutine" with
      | true => rw [hn] at hf; cases hf
      | false =>
        rw [hn] at hf
        exact ⟨fn, hfn, hn, hf⟩
    · cases hf
  lib := hlib
  libgrow := hgrow
end
end Go.Abs
namespace Go.Abs
noncomputable section
open Go.RowKit
def gTop (glob : Nat → Option (List D)) : G := { blk := fun _ => none, sl := fun _ _ => none, own := fun _ => none, imm := fun b o => match glob b with
  | some cs => cs[o]?
  | none => none }
def Holds (glob : Nat → Option (List D)) (w : World) : Prop := ∀ b cs o d, glob b = some cs → cs[o]? = some d → ∃ v, w.cell? ⟨b, o, none⟩ = some v ∧ ∀ g, VRel g d v
def Za9 : H := ⟨1, .nil⟩
theorem r0 {P : Program} {glob : Nat → Option (List D)} {w : World} (hg : Holds glob w) {top : Nat} (ht : 1 ≤ top) : R P top (gTop glob) Za9 w where
  obj := fun l o ho => by cases ho
  tip := fun id n e ho => by cases ho
  imm := fun b o d hd => by
    simp only [gTop] at hd
    split at hd
    · rename_i cs hc
      obtain ⟨v, hv, hr⟩ := hg b cs o d hc hd
      exact ⟨v, hv, hr _⟩
    · cases hd
  blkown := fun l b hb => by cases hb
  slown := fun id n b cap hb => by cases hb
  name := fun l _ _ => ⟨rfl, fun _ => rfl, fun b hb => by cases hb⟩
  dom := fun l _ => rfl
  le := ht
  block := fun _ _ => rfl
  pos := ⟨Nat.zero_lt_one, rfl⟩
  slblk := fun id n p hp => by cases hp
  ownk := fun b l hb => by cases hb
end
end Go.Abs
