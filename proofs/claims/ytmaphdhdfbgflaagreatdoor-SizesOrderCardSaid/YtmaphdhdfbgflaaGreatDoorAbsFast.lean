/- The reckoner's code made quick: closures in the place of tables. -/
import Derived.Test.YtmaphdhdfbgflaaGreatDoorAbsRun
set_option linter.unusedVariables false
namespace Go.Abs

def act (t : Tr D) : AAct := ⟨t, [], none, false⟩

/-! Temporaries. -/
def gV (t : Tr D) : D := Tr.casesOn (motive := fun _ => D) t undefD (fun _ v _ => Option.casesOn (motive := fun _ => D) v undefD (fun d => d))
def gL (k : Tr D → D) (t : Tr D) : D := Tr.casesOn (motive := fun _ => D) t undefD (fun l _ _ => k l)
def gR (k : Tr D → D) (t : Tr D) : D := Tr.casesOn (motive := fun _ => D) t undefD (fun _ _ r => k r)
def g0 (_ : Tr D) : D := undefD
def gF : Nat → Nat → Tr D → D
  | 0, _ => g0
  | f + 1, n => bif Nat.beq n 0 then gV else bif Nat.beq (n % 2) 1 then gL (gF f (n / 2)) else gR (gF f (n / 2 - 1))
def getD' (o : Option D) : D :=
  match o with
  | some d => d
  | none => undefD
theorem gF_eq : ∀ (f n : Nat) (t : Tr D), n < f → gF f n t = getD' (t.get n)
  | 0, n, t, h => by omega
  | f + 1, n, t, h => by
    by_cases h0 : n = 0
    · subst h0
      cases t with
      | nil => rfl
      | node l v r => cases v <;> rfl
    · have hb : Nat.beq n 0 = false := by cases hb : Nat.beq n 0 with
        | false => rfl
        | true => exact absurd (Nat.eq_of_beq_eq_true hb) h0
      cases hm : Nat.beq (n % 2) 1 with
      | true =>
        simp only [gF, hb, hm, cond_true, cond_false]
        cases t with
        | nil => rfl
        | node l v r =>
          simp only [gL, Tr.get, hb, hm, cond_true, cond_false]
          exact gF_eq f (n / 2) l (by omega)
      | false =>
        simp only [gF, hb, hm, cond_false]
        cases t with
        | nil => rfl
        | node l v r =>
          simp only [gR, Tr.get, hb, hm, cond_false]
          exact gF_eq f (n / 2 - 1) r (by omega)
def kD (d : D) (_ : Tr D) : D := d
def fe : Opd → Tr D → D
  | .t n => gF (n + 1) n
  | .d d => kD d
theorem fe_eq (x : Opd) (t : Tr D) : fe x t = (act t).eval x := by
  cases x with
  | t n => exact gF_eq (n + 1) n t (Nat.lt_succ_self n)
  | d d => rfl

def pV (v : D) (t : Tr D) : Tr D := Tr.casesOn (motive := fun _ => Tr D) t (.node .nil (some v) .nil) (fun l _ r => .node l (some v) r)
def pL (k : D → Tr D → Tr D) (v : D) (t : Tr D) : Tr D := Tr.casesOn (motive := fun _ => Tr D) t (.node (k v .nil) none .nil) (fun l u r => .node (k v l) u r)
def pR (k : D → Tr D → Tr D) (v : D) (t : Tr D) : Tr D := Tr.casesOn (motive := fun _ => Tr D) t (.node .nil none (k v .nil)) (fun l u r => .node l u (k v r))
def p0 (_ : D) (t : Tr D) : Tr D := t
def pF : Nat → Nat → D → Tr D → Tr D
  | 0, _ => p0
  | f + 1, n => bif Nat.beq n 0 then pV else bif Nat.beq (n % 2) 1 then pL (pF f (n / 2)) else pR (pF f (n / 2 - 1))
theorem pF_eq : ∀ (f n : Nat) (v : D) (t : Tr D), pF f n v t = Tr.setF f t n (some v)
  | 0, n, v, t => by cases t <;> rfl
  | f + 1, n, v, t => by
    cases hb : Nat.beq n 0 with
    | true => simp only [pF, hb, cond_true]; cases t <;> simp only [pV, Tr.setF, hb, cond_true]
    | false => cases hm : Nat.beq (n % 2) 1 with
      | true =>
        simp only [pF, hb, hm, cond_true, cond_false]
        cases t <;> simp only [pL, Tr.setF, hb, hm, cond_true, cond_false, pF_eq f]
      | false =>
        simp only [pF, hb, hm, cond_false]
        cases t <;> simp only [pR, Tr.setF, hb, hm, cond_false, pF_eq f]
def fput : Option Nat → D → Tr D → Tr D
  | none => p0
  | some n => pF (n + 1) n
theorem fput_eq (dst : Option Nat) (d : D) (t : Tr D) : act (fput dst d t) = (act t).put dst d := by
  cases dst with
  | none => rfl
  | some n => simp only [fput, AAct.put, act, Tr.set, pF_eq]

def evs : List (Tr D → D) → Tr D → List D
  | [], _ => []
  | g :: gs, t => g t :: evs gs t
theorem evs_eq (l : List Opd) (t : Tr D) : evs (l.map fe) t = (act t).evals l := by
  induction l with
  | nil => rfl
  | cons x r ih => simp only [List.map_cons, evs, AAct.evals, ih, fe_eq]

/-! Memory. -/
def hgS (k : Tr AObj → Nat → Option AObj) (t : Tr AObj) (n : Nat) : Option AObj := Tr.casesOn (motive := fun _ => Option AObj) t none (fun l v r => bif Nat.beq n 0 then v else bif Nat.beq (Nat.mod n 2) 1 then k l (Nat.div n 2) else k r (Nat.pred (Nat.div n 2)))
theorem hgS_eq {k : Tr AObj → Nat → Option AObj} (hk : ∀ t n, k t n = t.get n) (t : Tr AObj) (n : Nat) : hgS k t n = t.get n := by
  cases t with
  | nil => rfl
  | node l v r => simp only [hgS, Tr.get, hk]; rfl
def hg0 : Tr AObj → Nat → Option AObj := hgS Tr.get
def hg1 : Tr AObj → Nat → Option AObj := hgS hg0
def hg2 : Tr AObj → Nat → Option AObj := hgS hg1
def hg3 : Tr AObj → Nat → Option AObj := hgS hg2
def hg4 : Tr AObj → Nat → Option AObj := hgS hg3
def hg5 : Tr AObj → Nat → Option AObj := hgS hg4
def hg6 : Tr AObj → Nat → Option AObj := hgS hg5
def hg7 : Tr AObj → Nat → Option AObj := hgS hg6
def hg8 : Tr AObj → Nat → Option AObj := hgS hg7
def hg9 : Tr AObj → Nat → Option AObj := hgS hg8
def hg10 : Tr AObj → Nat → Option AObj := hgS hg9
def hg11 : Tr AObj → Nat → Option AObj := hgS hg10
def hg12 : Tr AObj → Nat → Option AObj := hgS hg11
def hget : Tr AObj → Nat → Option AObj := hgS hg12
theorem hget_eq (t : Tr AObj) (n : Nat) : hget t n = t.get n :=
  hgS_eq (hgS_eq (hgS_eq (hgS_eq (hgS_eq (hgS_eq (hgS_eq (hgS_eq (hgS_eq (hgS_eq (hgS_eq (hgS_eq (hgS_eq (hgS_eq fun _ _ => rfl))))))))))))) t n
def hpS (k : Nat → Tr AObj → Nat → AObj → Tr AObj) (f : Nat) (t : Tr AObj) (n : Nat) (v : AObj) : Tr AObj := Tr.casesOn (motive := fun _ => Tr AObj) t
  (bif Nat.beq n 0 then .node .nil (some v) .nil else bif Nat.beq (Nat.mod n 2) 1 then .node (k (Nat.pred f) .nil (Nat.div n 2) v) none .nil else .node .nil none (k (Nat.pred f) .nil (Nat.pred (Nat.div n 2)) v))
  (fun l u r => bif Nat.beq n 0 then .node l (some v) r else bif Nat.beq (Nat.mod n 2) 1 then .node (k (Nat.pred f) l (Nat.div n 2) v) u r else .node l u (k (Nat.pred f) r (Nat.pred (Nat.div n 2)) v))
def hpOk (k : Nat → Tr AObj → Nat → AObj → Tr AObj) : Prop := ∀ f t n v, n < f → k f t n v = Tr.setF f t n (some v)
theorem hpS_eq {k : Nat → Tr AObj → Nat → AObj → Tr AObj} (hk : hpOk k) : hpOk (hpS k) := by
  intro f t n v hn
  obtain ⟨f, rfl⟩ : ∃ m, f = m + 1 := ⟨f - 1, by omega⟩
  cases hb : Nat.beq n 0 with
  | true => cases t <;> simp only [hpS, Tr.setF, hb, cond_true]
  | false =>
    have h0 : n ≠ 0 := fun e => by subst e; cases hb
    have h1 : k f .nil (Nat.div n 2) v = Tr.setF f .nil (n / 2) (some v) := hk f .nil (n / 2) v (by omega)
    have h2 : k f .nil (Nat.pred (Nat.div n 2)) v = Tr.setF f .nil (n / 2 - 1) (some v) := hk f .nil (n / 2 - 1) v (by omega)
    cases hm : Nat.beq (n % 2) 1 with
    | true =>
      have hm' : Nat.beq (Nat.mod n 2) 1 = true := hm
      cases t with
      | nil => simp only [hpS, Tr.setF, hb, hm, hm', cond_true, cond_false, Nat.pred_succ, h1]
      | node l u r =>
        have h3 : k f l (Nat.div n 2) v = Tr.setF f l (n / 2) (some v) := hk f l (n / 2) v (by omega)
        simp only [hpS, Tr.setF, hb, hm, hm', cond_true, cond_false, Nat.pred_succ, h3]
    | false =>
      have hm' : Nat.beq (Nat.mod n 2) 1 = false := hm
      cases t with
      | nil => simp only [hpS, Tr.setF, hb, hm, hm', cond_false, Nat.pred_succ, h2]
      | node l u r =>
        have h3 : k f r (Nat.pred (Nat.div n 2)) v = Tr.setF f r (n / 2 - 1) (some v) := hk f r (n / 2 - 1) v (by omega)
        simp only [hpS, Tr.setF, hb, hm, hm', cond_false, Nat.pred_succ, h3]
def hpE (f : Nat) (t : Tr AObj) (n : Nat) (v : AObj) : Tr AObj := Tr.setF f t n (some v)
def hp0 := hpS hpE
def hp1 := hpS hp0
def hp2 := hpS hp1
def hp3 := hpS hp2
def hp4 := hpS hp3
def hp5 := hpS hp4
def hp6 := hpS hp5
def hp7 := hpS hp6
def hp8 := hpS hp7
def hp9 := hpS hp8
def hp10 := hpS hp9
def hp11 := hpS hp10
def hp12 := hpS hp11
def hset (t : Tr AObj) (n : Nat) (v : AObj) : Tr AObj := hpS hp12 (Nat.succ n) t n v
theorem hset_eq (t : Tr AObj) (n : Nat) (v : AObj) : hset t n v = t.set n (some v) :=
  hpS_eq (hpS_eq (hpS_eq (hpS_eq (hpS_eq (hpS_eq (hpS_eq (hpS_eq (hpS_eq (hpS_eq (hpS_eq (hpS_eq (hpS_eq (hpS_eq (fun _ _ _ _ _ => rfl)))))))))))))) _ _ _ _ (Nat.lt_succ_self n)
def fput' (h : H) (l : Nat) (o : AObj) : H := ⟨h.next, hset h.mem l o⟩
theorem fput'_eq (h : H) (l : Nat) (o : AObj) : fput' h l o = h.put l o := by simp only [fput', H.put, hset_eq]
def fnew (h : H) (o : AObj) : H := ⟨Nat.succ h.next, hset h.mem h.next o⟩
theorem fnew_eq (h : H) (o : AObj) : h.new o = (h.next, fnew h o) := by simp only [fnew, H.new, hset_eq]
end Go.Abs
