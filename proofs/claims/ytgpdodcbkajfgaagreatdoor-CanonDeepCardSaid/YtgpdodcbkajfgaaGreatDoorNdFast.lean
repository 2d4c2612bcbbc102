/- The reckoner's code made quick: closures in the place of tables. -/
import Derived.Test.YtgpdodcbkajfgaaGreatDoorNdRun
import Derived.Test.YtgpdodcbkajfgaaGreatDoorNdLib
set_option linter.unusedVariables false
set_option linter.unusedSimpArgs false
namespace Go.Abs
def act (t : Tr D) : AAct := ⟨t, [], none, false⟩
def gV (t : Tr D) : D := Tr.casesOn (motive := fun _ => D) t Yr (fun _ v _ => Option.casesOn (motive := fun _ => D) v Yr (fun d => d))
def gL (k : Tr D → D) (t : Tr D) : D := Tr.casesOn (motive := fun _ => D) t Yr (fun l _ _ => k l)
def gR (k : Tr D → D) (t : Tr D) : D := Tr.casesOn (motive := fun _ => D) t Yr (fun _ _ r => k r)
def g0 (_ : Tr D) : D := Yr
def gF : Nat → Nat → Tr D → D
  | 0, _ => g0
  | f + 1, n => bif Nat.beq n 0 then gV else bif Nat.beq (n % 2) 1 then gL (gF f (n / 2)) else gR (gF f (n / 2 - 1))
def getD' (o : Option D) : D :=
  match o with
  | some d => d
  | none => Yr
theorem gF_eq : ∀ (f n : Nat) (t : Tr D), n < f → gF f n t = getD' (t.get n)
  | 0, n, t, h => by omega
  | f + 1, n, t, h => by
    by_cases h0 : n = 0
    · subst h0
      cases t with
      | nil => rfl
      | node l v r => cases v <;> rfl
    · have hb : Nat.beq n 0 = false := by cases hb : Nat.beq n 0 with
        | false => rfl
        | true => exact absurd (Nat.eq_of_beq_eq_true hb) h0
      cases hm : Nat.beq (n % 2) 1 with
      | true =>
        simp only [gF, hb, hm, cond_true, cond_false]
        cases t with
        | nil => rfl
        | node l v r =>
          simp only [gL, Tr.get, hb, hm, cond_true, cond_false]
          exact gF_eq f (n / 2) l (by omega)
      | false =>
        simp only [gF, hb, hm, cond_false]
        cases t with
        | nil => rfl
        | node l v r =>
          simp only [gR, Tr.get, hb, hm, cond_false]
          exact gF_eq f (n / 2 - 1) r (by omega)
def kD (d : D) (_ : Tr D) : D := d
def fe : Opd → Tr D → D
  | .t n => gF (n + 1) n
  | .d d => kD d
theorem XH (x : Opd) (t : Tr D) : fe x t = (act t).eval x := by
  cases x with
  | t n => exact gF_eq (n + 1) n t (Nat.lt_succ_self n)
  | d d => rfl
def pV (v : D) (t : Tr D) : Tr D := Tr.casesOn (motive := fun _ => Tr D) t (.node .nil (some v) .nil) (fun l _ r => .node l (some v) r)
def pL (k : D → Tr D → Tr D) (v : D) (t : Tr D) : Tr D := Tr.casesOn (motive := fun _ => Tr D) t (.node (k v .nil) none .nil) (fun l u r => .node (k v l) u r)
def pR (k : D → Tr D → Tr D) (v : D) (t : Tr D) : Tr D := Tr.casesOn (motive := fun _ => Tr D) t (.node .nil none (k v .nil)) (fun l u r => .node l u (k v r))
def p0 (_ : D) (t : Tr D) : Tr D := t
def pF : Nat → Nat → D → Tr D → Tr D
  | 0, _ => p0
  | f + 1, n => bif Nat.beq n 0 then pV else bif Nat.beq (n % 2) 1 then pL (pF f (n / 2)) else pR (pF f (n / 2 - 1))
theorem pF_eq : ∀ (f n : Nat) (v : D) (t : Tr D), pF f n v t = Tr.setF f t n (some v)
  | 0, n, v, t => by cases t <;> rfl
  | f + 1, n, v, t => by
    cases hb : Nat.beq n 0 with
    | true => simp only [pF, hb, cond_true]; cases t <;> simp only [pV, Tr.setF, hb, cond_true]
    | false => cases hm : Nat.beq (n % 2) 1 with
      | true =>
        simp only [pF, hb, hm, cond_true, cond_false]
        cases t <;> simp only [pL, Tr.setF, hb, hm, cond_true, cond_false, pF_eq f]
      | false =>
        simp only [pF, hb, hm, cond_false]
        cases t <;> simp only [pR, Tr.setF, hb, hm, cond_false, pF_eq f]
def fput : Option Nat → D → Tr D → Tr D
  | none => p0
  | some n => pF (n + 1) n
theorem fput_eq (dst : Option Nat) (d : D) (t : Tr D) : act (fput dst d t) = (act t).put dst d := by
  cases dst with
  | none => rfl
  | some n => simp only [fput, AAct.put, act, Tr.set, pF_eq]
def evs : List (Tr D → D) → Tr D → List D
  | [], _ => []
  | g :: gs, t => g t :: evs gs t
theorem evs_eq (l : List Opd) (t : Tr D) : evs (l.map fe) t = (act t).evals l := by
  induction l with
  | nil => rfl
  | cons x r ih => simp only [List.map_cons, evs, AAct.evals, ih, XH]
def hgS (k : Tr AObj → Nat → Option AObj) (t : Tr AObj) (n : Nat) : Option AObj := Tr.casesOn (motive := fun _ => Option AObj) t none (fun l v r => bif Nat.beq n 0 then v else bif Nat.beq (Nat.mod n 2) 1 then k l (Nat.div n 2) else k r (Nat.pred (Nat.div n 2)))
theorem hgS_eq {k : Tr AObj → Nat → Option AObj} (hk : ∀ t n, k t n = t.get n) (t : Tr AObj) (n : Nat) : hgS k t n = t.get n := by
  cases t with
  | nil => rfl
  | node l v r => simp only [hgS, Tr.get, hk]; rfl
def hg0 : Tr AObj → Nat → Option AObj := hgS Tr.get
def hg1 : Tr AObj → Nat → Option AObj := hgS hg0
def hg2 : Tr AObj → Nat → Option AObj := hgS hg1
def hg3 : Tr AObj → Nat → Option AObj := hgS hg2
def hg4 : Tr AObj → Nat → Option AObj := hgS hg3
def hg5 : Tr AObj → Nat → Option AObj := hgS hg4
def hg6 : Tr AObj → Nat → Option AObj := hgS hg5
def hg7 : Tr AObj → Nat → Option AObj := hgS hg6
def hg8 : Tr AObj → Nat → Option AObj := hgS hg7
def hg9 : Tr AObj → Nat → Option AObj := hgS hg8
def hg10 : Tr AObj → Nat → Option AObj := hgS hg9
def hg11 : Tr AObj → Nat → Option AObj := hgS hg10
def hg12 : Tr AObj → Nat → Option AObj := hgS hg11
def Zg : Tr AObj → Nat → Option AObj := hgS hg12
theorem Xg (t : Tr AObj) (n : Nat) : Zg t n = t.get n :=
  hgS_eq (hgS_eq (hgS_eq (hgS_eq (hgS_eq (hgS_eq (hgS_eq (hgS_eq (hgS_eq (hgS_eq (hgS_eq (hgS_eq (hgS_eq (hgS_eq fun _ _ => rfl))))))))))))) t n
def hpS (k : Nat → Tr AObj → Nat → AObj → Tr AObj) (f : Nat) (t : Tr AObj) (n : Nat) (v : AObj) : Tr AObj := Tr.casesOn (motive := fun _ => Tr AObj) t
  (bif Nat.beq n 0 then .node .nil (some v) .nil else bif Nat.beq (Nat.mod n 2) 1 then .node (k (Nat.pred f) .nil (Nat.div n 2) v) none .nil else .node .nil none (k (Nat.pred f) .nil (Nat.pred (Nat.div n 2)) v))
  (fun l u r => bif Nat.beq n 0 then .node l (some v) r else bif Nat.beq (Nat.mod n 2) 1 then .node (k (Nat.pred f) l (Nat.div n 2) v) u r else .node l u (k (Nat.pred f) r (Nat.pred (Nat.div n 2)) v))
def hpOk (k : Nat → Tr AObj → Nat → AObj → Tr AObj) : Prop := ∀ f t n v, n < f → k f t n v = Tr.setF f t n (some v)
theorem hpS_eq {k : Nat → Tr AObj → Nat → AObj → Tr AObj} (hk : hpOk k) : hpOk (hpS k) := by
  intro f t n v hn
  obtain ⟨f, rfl⟩ : ∃ m, f = m + 1 := ⟨f - 1, by omega⟩
  cases hb : Nat.beq n 0 with
  | true => cases t <;> simp only [hpS, Tr.setF, hb, cond_true]
  | false =>
    have h0 : n ≠ 0 := fun e => by subst e; cases hb
    have h1 : k f .nil (Nat.div n 2) v = Tr.setF f .nil (n / 2) (some v) := hk f .nil (n / 2) v (by omega)
    have h2 : k f .nil (Nat.pred (Nat.div n 2)) v = Tr.setF f .nil (n / 2 - 1) (some v) := hk f .nil (n / 2 - 1) v (by omega)
    cases hm : Nat.beq (n % 2) 1 with
    | true =>
      have hm' : Nat.beq (Nat.mod n 2) 1 = true := hm
      cases t with
      | nil => simp only [hpS, Tr.setF, hb, hm, hm', cond_true, cond_false, Nat.pred_succ, h1]
      | node l u r =>
        have h3 : k f l (Nat.div n 2) v = Tr.setF f l (n / 2) (some v) := hk f l (n / 2) v (by omega)
        simp only [hpS, Tr.setF, hb, hm, hm', cond_true, cond_false, Nat.pred_succ, h3]
    | false =>
      have hm' : Nat.beq (Nat.mod n 2) 1 = false := hm
      cases t with
      | nil => simp only [hpS, Tr.setF, hb, hm, hm', cond_false, Nat.pred_succ, h2]
      | node l u r =>
        have h3 : k f r (Nat.pred (Nat.div n 2)) v = Tr.setF f r (n / 2 - 1) (some v) := hk f r (n / 2 - 1) v (by omega)
        simp only [hpS, Tr.setF, hb, hm, hm', cond_false, Nat.pred_succ, h3]
def hpE (f : Nat) (t : Tr AObj) (n : Nat) (v : AObj) : Tr AObj := Tr.setF f t n (some v)
def hp0 := hpS hpE
def hp1 := hpS hp0
def hp2 := hpS hp1
def hp3 := hpS hp2
def hp4 := hpS hp3
def hp5 := hpS hp4
def hp6 := hpS hp5
def hp7 := hpS hp6
def hp8 := hpS hp7
def hp9 := hpS hp8
def hp10 := hpS hp9
def hp11 := hpS hp10
def hp12 := hpS hp11
def hset (t : Tr AObj) (n : Nat) (v : AObj) : Tr AObj := hpS hp12 (Nat.succ n) t n v
theorem hset_eq (t : Tr AObj) (n : Nat) (v : AObj) : hset t n v = t.set n (some v) :=
  hpS_eq (hpS_eq (hpS_eq (hpS_eq (hpS_eq (hpS_eq (hpS_eq (hpS_eq (hpS_eq (hpS_eq (hpS_eq (hpS_eq (hpS_eq (hpS_eq (fun _ _ _ _ _ => rfl)))))))))))))) _ _ _ _ (Nat.lt_succ_self n)
def W7 (h : H) (l : Nat) (o : AObj) : H := ⟨h.next, hset h.mem l o⟩
theorem fput'_eq (h : H) (l : Nat) (o : AObj) : W7 h l o = h.put l o := by simp only [W7, H.put, hset_eq]
def W8 (h : H) (o : AObj) : H := ⟨Nat.succ h.next, hset h.mem h.next o⟩
theorem fnew_eq (h : H) (o : AObj) : h.new o = (h.next, W8 h o) := by simp only [W8, H.new, hset_eq]
end Go.Abs
namespace Go.Abs
def kNum (k : IntKind) : Nat := IntKind.casesOn (motive := fun _ => Nat) k 0 1 2 3 4 5 6 7
def kEq (a b : IntKind) : Bool := Nat.beq (kNum a) (kNum b)
theorem kEq_eq (a b : IntKind) : kEq a b = decide (a = b) := by cases a <;> cases b <;> rfl
def kMax (k : IntKind) : Nat :=
  match k with
  | .i8 => 127
  | .i16 => 32767
  | .i32 => 2147483647
  | .i64 => 9223372036854775807
  | .u8 => 255
  | .u16 => 65535
  | .u32 => 4294967295
  | .u64 => 18446744073709551615
theorem isOk_ofNat (k : IntKind) (m : Nat) : isOk k (.ofNat m) = Nat.ble m (kMax k) := by
  cases k <;> (rw [Bool.eq_iff_iff]; simp only [isOk, kMax, Bool.and_eq_true, decide_eq_true_eq, Nat.ble_eq, Int.ofNat_eq_natCast]; omega)
def wrapQ (k : IntKind) (n : Int) : Int := Int.casesOn (motive := fun _ => Int) n (fun m => bif Nat.ble m (kMax k) then .ofNat m else wrapF k (.ofNat m)) (fun m => wrapF k (.negSucc m))
theorem wrapQ_eq (k : IntKind) (n : Int) : wrapQ k n = wrapF k n := by
  cases n with
  | ofNat m =>
    show (bif Nat.ble m (kMax k) then Int.ofNat m else wrapF k (.ofNat m)) = _
    cases h : Nat.ble m (kMax k) with
    | true => simp only [cond_true, wrapF, isOk_ofNat, h]
    | false => rfl
  | negSucc m => rfl
def iAdd (a b : Int) : Int := Int.casesOn (motive := fun _ => Int) a (fun m => Int.casesOn (motive := fun _ => Int) b (fun n => .ofNat (Nat.add m n)) (fun n => .ofNat m + .negSucc n)) (fun m => .negSucc m + b)
theorem iAdd_eq (a b : Int) : iAdd a b = a + b := by cases a <;> cases b <;> rfl
def iSub (a b : Int) : Int := Int.casesOn (motive := fun _ => Int) a (fun m => Int.casesOn (motive := fun _ => Int) b (fun n => bif Nat.ble n m then .ofNat (Nat.sub m n) else .ofNat m - .ofNat n) (fun n => .ofNat m - .negSucc n)) (fun m => .negSucc m - b)
theorem iSub_eq (a b : Int) : iSub a b = a - b := by
  cases a with
  | negSucc m => rfl
  | ofNat m => cases b with
    | negSucc n => rfl
    | ofNat n =>
      simp only [iSub]
      cases h : Nat.ble n m with
      | false => rfl
      | true =>
        have := Nat.le_of_ble_eq_true h
        simp only [cond_true]
        show Int.ofNat (m - n) = _
        simp only [Int.ofNat_eq_natCast]; omega
def iMul (a b : Int) : Int := Int.casesOn (motive := fun _ => Int) a (fun m => Int.casesOn (motive := fun _ => Int) b (fun n => .ofNat (Nat.mul m n)) (fun n => .ofNat m * .negSucc n)) (fun m => .negSucc m * b)
theorem iMul_eq (a b : Int) : iMul a b = a * b := by cases a <;> cases b <;> rfl
def iEq (a b : Int) : Bool := Int.casesOn (motive := fun _ => Bool) a (fun m => Int.casesOn (motive := fun _ => Bool) b (fun n => Nat.beq m n) (fun n => false)) (fun m => Int.casesOn (motive := fun _ => Bool) b (fun n => false) (fun n => Nat.beq m n))
theorem XY (m n : Nat) : Nat.beq m n = decide (m = n) := by
  cases h : Nat.beq m n with
  | true => simp [Nat.eq_of_beq_eq_true h]
  | false => simp; exact fun e => by subst e; rw [Nat.beq_refl] at h; cases h
theorem iEq_eq (a b : Int) : iEq a b = decide (a = b) := by
  cases a <;> cases b <;> simp [iEq, XY]
  all_goals (first | omega | rfl | (rename_i m n; constructor <;> intro h <;> omega))
def iLt (a b : Int) : Bool := Int.casesOn (motive := fun _ => Bool) a (fun m => Int.casesOn (motive := fun _ => Bool) b (fun n => Nat.blt m n) (fun n => decide (Int.ofNat m < .negSucc n))) (fun m => decide (Int.negSucc m < b))
theorem blt_dec (m n : Nat) : Nat.blt m n = decide (m < n) := by
  rw [Bool.eq_iff_iff]
  simp only [Nat.blt_eq, decide_eq_true_eq]
theorem iLt_eq (a b : Int) : iLt a b = decide (a < b) := by
  cases a with
  | negSucc m => rfl
  | ofNat m => cases b with
    | negSucc n => rfl
    | ofNat n => simp only [iLt, blt_dec, Int.ofNat_eq_natCast, Int.ofNat_lt]
def iLe (a b : Int) : Bool := !iLt b a
theorem iLe_eq (a b : Int) : iLe a b = decide (a ≤ b) := by
  rw [iLe, iLt_eq]
  by_cases h : b < a
  · simp [h]
  · simp [h]; omega
abbrev FOp := Env → Call → Tr D → H → O D
def Zc (f : IntKind → Int → Int → D) (op : BinOp) (t : TypeId) (ox oy : Operand) (g1 g2 : Tr D → D) : FOp := fun E call tr h =>
  match g1 tr with
  | .int k a => match g2 tr with
    | .int k' b => bif kEq k k' then .ok (f k a b) h else ok? (binD E op t ox oy (.int k a) (.int k' b)) h "bin"
    | y => ok? (binD E op t ox oy (.int k a) y) h "bin"
  | x => ok? (binD E op t ox oy x (g2 tr)) h "bin"
def Y7 (k : IntKind) (a b : Int) : D := .int k (wrapQ k (iAdd a b))
def dsub (k : IntKind) (a b : Int) : D := .int k (wrapQ k (iSub a b))
def dmul (k : IntKind) (a b : Int) : D := .int k (wrapQ k (iMul a b))
def Yc (k : IntKind) (a b : Int) : D := .v (.bool (iEq a b))
def dneq (k : IntKind) (a b : Int) : D := .v (.bool (!iEq a b))
def dlss (k : IntKind) (a b : Int) : D := .v (.bool (iLt a b))
def dleq (k : IntKind) (a b : Int) : D := .v (.bool (iLe a b))
def dgtr (k : IntKind) (a b : Int) : D := .v (.bool (iLt b a))
def W9 (k : IntKind) (a b : Int) : D := .v (.bool (iLe b a))
def sbin (op : BinOp) (t : TypeId) (ox oy : Operand) (g1 g2 : Tr D → D) : FOp := fun E call tr h => ok? (binD E op t ox oy (g1 tr) (g2 tr)) h "bin"
def fbin (op : BinOp) (t : TypeId) (ox oy : Operand) (g1 g2 : Tr D → D) : FOp :=
  match op with
  | .add => Zc Y7 .add t ox oy g1 g2
  | .sub => Zc dsub .sub t ox oy g1 g2
  | .mul => Zc dmul .mul t ox oy g1 g2
  | .eql => Zc Yc .eql t ox oy g1 g2
  | .neq => Zc dneq .neq t ox oy g1 g2
  | .lss => Zc dlss .lss t ox oy g1 g2
  | .leq => Zc dleq .leq t ox oy g1 g2
  | .gtr => Zc dgtr .gtr t ox oy g1 g2
  | .geq => Zc W9 .geq t ox oy g1 g2
  | op => sbin op t ox oy g1 g2
theorem qint_eq {f : IntKind → Int → Int → D} {op : BinOp} (hf : ∀ k a b, quickBin op (.int k a) (.int k b) = some (f k a b)) (t : TypeId) (ox oy : Operand) (g1 g2 : Tr D → D) (E : Env) (call : Call) (tr : Tr D) (h : H) :
    Zc f op t ox oy g1 g2 E call tr h = ok? (binD E op t ox oy (g1 tr) (g2 tr)) h "bin" := by
  simp only [Zc]
  split
  · rename_i k a h1
    rw [h1]
    split
    · rename_i k' b h2
      rw [h2, kEq_eq]
      by_cases hk : k = k'
      · subst hk
        simp [binD, hf, ok?]
      · simp [hk]
    · rfl
  · rfl
theorem fbin_eq (op : BinOp) (t : TypeId) (ox oy : Operand) (g1 g2 : Tr D → D) (E : Env) (call : Call) (tr : Tr D) (h : H) :
    fbin op t ox oy g1 g2 E call tr h = ok? (binD E op t ox oy (g1 tr) (g2 tr)) h "bin" := by
  cases op <;> first
    | rfl
    | (refine qint_eq (fun k a b => ?_) t ox oy g1 g2 E call tr h
       simp [quickBin, Y7, dsub, dmul, Yc, dneq, dlss, dleq, dgtr, W9, wrapQ_eq, iAdd_eq, iSub_eq, iMul_eq, iEq_eq, iLt_eq, iLe_eq])
def Zh (g : Tr D → D) : FOp := fun E call t h =>
  match g t with
  | .ptr l off => match Zg h.mem l with
    | some (.cells _ cs) => match cs.drop off with
      | d :: _ => .ok d h
      | [] => .fail "load"
    | _ => .fail "load"
  | .ep cs => match cs with
    | d :: _ => .ok d h
    | [] => .fail "load"
  | _ => .fail "load"
theorem fld1_eq (g : Tr D → D) (E : Env) (call : Call) (t : Tr D) (h : H) (x : Opd) (hx : (act t).eval x = g t) : Zh g E call t h = r_ld1 x E call (act t) h := by
  simp only [Zh, r_ld1, hx, Za, Xg]
  cases g t <;> try rfl
  · rename_i l off
    dsimp only
    cases h.mem.get l with
    | none => rfl
    | some o => cases o with
      | cells ty cs => simp only []; cases hd : cs.drop off <;> simp [Nat.beq]
      | _ => rfl
  · rename_i cs
    cases cs <;> simp [Nat.beq]
def ZT (n : Nat) (g : Tr D → D) : FOp := fun E call t h =>
  match g t with
  | .ptr l off => match Zg h.mem l with
    | some (.cells _ cs) => let r := (cs.drop off).take n; bif Nat.beq r.length n then .ok (.agg r) h else .fail "loadN"
    | _ => .fail "loadN"
  | x => match Za h x n with
    | some cs => .ok (.agg cs) h
    | none => .fail "loadN"
theorem fldN_eq (n : Nat) (g : Tr D → D) (E : Env) (call : Call) (t : Tr D) (h : H) (x : Opd) (hx : (act t).eval x = g t) : ZT n g E call t h = r_ldN n x E call (act t) h := by
  simp only [ZT, r_ldN, hx, Xg]
  cases g t <;> try rfl
  rename_i l off
  simp only [Za]
  cases h.mem.get l with
  | none => rfl
  | some o => cases o with
    | cells ty cs => simp only []; cases Nat.beq ((cs.drop off).take n).length n <;> rfl
    | _ => rfl
def ZE (n : Nat) (g1 g2 : Tr D → D) : FOp := fun E call t h =>
  match g1 t with
  | .ptr l off => match Zg h.mem l with
    | some (.cells ty cs) =>
      bif Nat.beq (g2 t).cells.length n && X5 (g2 t).cells then
        match patch cs off (g2 t).cells with
        | some cs => .ok Yr (W7 h l (.cells ty cs))
        | none => .fail "store"
      else .fail "store"
    | _ => .fail "store"
  | _ => .fail "store"
theorem fst1_eq (n : Nat) (g1 g2 : Tr D → D) (E : Env) (call : Call) (t : Tr D) (h : H) (x y : Opd) (hx : (act t).eval x = g1 t) (hy : (act t).eval y = g2 t) : ZE n g1 g2 E call t h = r_st n x y E call (act t) h := by
  simp only [ZE, r_st, hx, hy, Xg, fput'_eq, storeD]
  cases g1 t <;> try rfl
  rename_i l off
  simp only []
  cases h.mem.get l with
  | none => rfl
  | some o => cases o with
    | cells ty cs =>
      simp only []
      cases Nat.beq (g2 t).cells.length n && X5 (g2 t).cells with
      | false => rfl
      | true => simp only [cond_true]; cases patch cs off (g2 t).cells <;> rfl
    | _ => rfl
def Zr (ty : TypeId) (z : List D) : FOp := fun E call t h => .ok (.ptr h.next 0) (W8 h (.cells ty z))
def X0 (ty : TypeId) (g : Tr D → D) : FOp := fun E call t h => .ok (.ptr h.next 0) (W8 h (.cells ty (g t).cells))
def fmkmap : FOp := fun E call t h => .ok (.map h.next) (W8 h (.map []))
def ffill (t : Tr D) (cells : List D) : List (Nat × Nat × (Tr D → D)) → Option (List D)
  | [] => some cells
  | (off, size, g) :: r => bif Nat.beq (g t).cells.length size then (match patch cells off (g t).cells with
      | some cells => ffill t cells r
      | none => none) else none
def fparts (ps : List (Nat × Nat × Opd)) : List (Nat × Nat × (Tr D → D)) := ps.map fun p => (p.1, p.2.1, fe p.2.2)
theorem ffill_eq (t : Tr D) : ∀ (ps : List (Nat × Nat × Opd)) (cells : List D), ffill t cells (fparts ps) = fillD (act t) cells ps
  | [], cells => rfl
  | (off, size, x) :: r, cells => by
    simp only [fparts, List.map_cons, ffill, fillD, XH]
    cases Nat.beq ((act t).eval x).cells.length size with
    | false => rfl
    | true =>
      simp only [cond_true]
      cases patch cells off ((act t).eval x).cells with
      | none => rfl
      | some c => exact ffill_eq t r c
def ZR (z : List D) (ps : List (Nat × Nat × (Tr D → D))) : FOp := fun E call t h =>
  match ffill t z ps with
  | some cs => .ok (.agg cs) h
  | none => .fail "build"
def Y6 (e : TypeId) (len : Nat) (z : List D) (ps : List (Nat × Nat × (Tr D → D))) : FOp := fun E call t h =>
  match ffill t z ps with
  | some cs => .ok (.sl h.next len cs) (W8 h (.tip len e))
  | none => .fail "buildSl"
def fmv (g : Tr D → D) : FOp := fun E call t h => .ok (g t) h
def ZO (c x y : Tr D → D) : FOp := fun E call t h =>
  match c t with
  | .v (.bool b) => .ok (bif b then x t else y t) h
  | _ => .fail "pick"
def fcint (k : IntKind) (g : Tr D → D) : FOp := fun E call t h =>
  match g t with
  | .int _ n => .ok (.int k (wrapQ k n)) h
  | _ => .fail "cint"
def Zo (f : Nat) (gs : List (Tr D → D)) : FOp := fun E call t h => call f (evs gs t) h
def Xk (g : Tr D → D) (gs : List (Tr D → D)) : FOp := fun E call t h => callD call (g t) (evs gs t) h
def fcallo (f : Opd) (gs : List (Tr D → D)) : FOp :=
  match f with
  | .d (.v (.func (.func n) ⟨[]⟩ ⟨[]⟩)) => Zo n gs
  | f => Xk (fe f) gs
theorem fcallo_eq (f : Opd) (args : List Opd) (E : Env) (call : Call) (t : Tr D) (h : H) : fcallo f (args.map fe) E call t h = r_call f args E call (act t) h := by
  unfold fcallo
  split
  · simp [Zo, r_call, AAct.eval, callD, evs_eq]
  · simp only [Xk, r_call, evs_eq, XH]
def fmkf (fn : Fn) (xs ys : List (Tr D → D)) : FOp := fun E call t h => .ok (.func fn (evs xs t) (evs ys t)) h
def fbi (b : Builtin) (ts : Array TypeId) (ty : TypeId) (cs : Array Bool) (gs : List (Tr D → D)) : FOp := fun E call t h =>
  match plains (evs gs t) with
  | some vs => match val? E.P (builtin b ts ty cs vs.toArray) with
    | some (.value v) => .ok (.of v) h
    | _ => .fail "builtin"
  | none => .fail "builtin: args"
def u1 (r : Opd → Env → Call → AAct → H → O D) (g : Tr D → D) : FOp := fun E call t h => r (.d (g t)) E call (act t) h
def u2 (r : Opd → Opd → Env → Call → AAct → H → O D) (g1 g2 : Tr D → D) : FOp := fun E call t h => r (.d (g1 t)) (.d (g2 t)) E call (act t) h
def u3 (r : Opd → Opd → Opd → Env → Call → AAct → H → O D) (g1 g2 g3 : Tr D → D) : FOp := fun E call t h => r (.d (g1 t)) (.d (g2 t)) (.d (g3 t)) E call (act t) h
def og (g : Option (Tr D → D)) (t : Tr D) : Option Opd :=
  match g with
  | some g => some (.d (g t))
  | none => none
def feo (x : Option Opd) : Option (Tr D → D) :=
  match x with
  | some x => some (fe x)
  | none => none
def uo (r : Opd → Option Opd → Option Opd → Env → Call → AAct → H → O D) (g : Tr D → D) (lo hi : Option (Tr D → D)) : FOp := fun E call t h => r (.d (g t)) (og lo t) (og hi t) E call (act t) h
theorem og_eq (x : Option Opd) (t : Tr D) : (og (feo x) t).map (act t).eval = x.map (act t).eval := by
  cases x <;> simp [og, feo, AAct.eval, XH]
def dropQ : Nat → List Nat → Option (List Nat)
  | 0, l => some l
  | _ + 1, [] => none
  | n + 1, _ :: r => dropQ n r
def takeQ : Nat → List Nat → Option (List Nat)
  | 0, _ => some []
  | _ + 1, [] => none
  | n + 1, b :: r => match takeQ n r with
    | some t => some (b :: t)
    | none => none
theorem dropQ_eq : ∀ (n : Nat) (s : List Nat), dropQ n s = bif Nat.ble n s.length then some (s.drop n) else none
  | 0, s => by
    have e : Nat.ble 0 s.length = true := by rw [Nat.ble_eq]; exact Nat.zero_le _
    rw [e]; rfl
  | n + 1, [] => rfl
  | n + 1, b :: r => by
    rw [dropQ, dropQ_eq n r]
    simp only [List.length_cons, List.drop_succ_cons]
    rfl
theorem takeQ_eq : ∀ (n : Nat) (s : List Nat), takeQ n s = bif Nat.ble n s.length then some (s.take n) else none
  | 0, s => by
    have e : Nat.ble 0 s.length = true := by rw [Nat.ble_eq]; exact Nat.zero_le _
    rw [e]; rfl
  | n + 1, [] => rfl
  | n + 1, b :: r => by
    rw [takeQ, takeQ_eq n r]
    simp only [List.length_cons, List.take_succ_cons]
    have e : Nat.ble (n + 1) (r.length + 1) = Nat.ble n r.length := rfl
    rw [e]
    cases Nat.ble n r.length <;> rfl
def Xy (g : Tr D → D) (lo hi : Option (Tr D → D)) : FOp := fun E call t h =>
  match g t with
  | .str s => (match hi with
    | none => (match lo with
      | none => .ok (.str s) h
      | some l => (match l t with
        | .int _ (.ofNat n) => (match dropQ n s with
          | some r => .ok (.str r) h
          | none => .fail "slice: string")
        | _ => .fail "slice: string"))
    | some k => (match k t with
      | .int _ (.ofNat n) => (match takeQ n s with
        | some r => (match lo with
          | none => .ok (.str r) h
          | some l => (match l t with
            | .int _ (.ofNat m) => (match dropQ m r with
              | some q => .ok (.str q) h
              | none => .fail "slice: string")
            | _ => .fail "slice: string"))
        | none => .fail "slice: string")
      | _ => .fail "slice: string"))
  | _ => .fail "slice: string"
theorem fslstr_eq (x : Opd) (lo hi : Option Opd) (E : Env) (call : Call) (t : Tr D) (h : H) : Xy (fe x) (feo lo) (feo hi) E call t h = r_slstr x lo hi E call (act t) h := by
  unfold Xy r_slstr
  rw [XH]
  cases (act t).eval x
  case str s =>
    cases hi with
    | none =>
      cases lo with
      | none => simp [feo, Xh, hiD, loD]
      | some l =>
        simp only [feo, XH, Option.map_none, Option.map_some, Xh, hiD, loD]
        cases (act t).eval l
        case int k n =>
          cases n with
          | ofNat n =>
            simp only [dropQ_eq]
            cases hb : Nat.ble n s.length with
            | false => rfl
            | true =>
              simp only [cond_true]
              rw [List.take_of_length_le (by rw [List.length_drop]; exact Nat.le_refl _)]
          | negSucc n => rfl
        all_goals rfl
    | some k =>
      simp only [feo, XH, Option.map_some, Xh, hiD]
      cases (act t).eval k
      case int q n =>
        cases n with
        | ofNat n =>
          simp only [takeQ_eq]
          cases hb : Nat.ble n s.length with
          | false => rfl
          | true =>
            have hn : n ≤ s.length := Nat.le_of_ble_eq_true hb
            simp only [cond_true]
            cases lo with
            | none => simp [loD]
            | some l =>
              simp only [Option.map_some, loD, XH]
              cases (act t).eval l
              case int q m =>
                cases m with
                | ofNat m =>
                  simp only [dropQ_eq, List.length_take, Nat.min_eq_left hn]
                  cases Nat.ble m n with
                  | false => rfl
                  | true => simp only [cond_true, List.drop_take]
                | negSucc m => rfl
              all_goals rfl
        | negSucc n => rfl
      all_goals rfl
  all_goals rfl
def fop : COp → FOp
  | .mv x => fmv (fe x)
  | .mvs x => u1 r_mvs (fe x)
  | .pick c x y => ZO (fe c) (fe x) (fe y)
  | .alloc t z => Zr t z
  | .box t x => X0 t (fe x)
  | .build z ps => ZR z (fparts ps)
  | .buildSl e n z ps => Y6 e n z (fparts ps)
  | .ld1 x => Zh (fe x)
  | .ldN n x => ZT n (fe x)
  | .st n x y => ZE n (fe x) (fe y)
  | .nilCheck x => u1 ZJ (fe x)
  | .bin op t ox oy x y => fbin op t ox oy (fe x) (fe y)
  | .un op x => u1 (r_un op) (fe x)
  | .cint k x => fcint k (fe x)
  | .s2b e x => u1 (r_s2b e) (fe x)
  | .b2s x => u1 r_b2s (fe x)
  | .conv s t x => u1 (r_conv s t) (fe x)
  | .iface t x => u1 (YX t) (fe x)
  | .mkf fn xs ys => fmkf fn (xs.map fe) (ys.map fe)
  | .mkmap => fmkmap
  | .mksl e s b z l c => u2 (XK e s b z) (fe l) (fe c)
  | .slstr x lo hi => Xy (fe x) (feo lo) (feo hi)
  | .slsl s x lo hi => uo (r_slsl s) (fe x) (feo lo) (feo hi)
  | .slarr n s x lo hi => uo (Wa n s) (fe x) (feo lo) (feo hi)
  | .fa n x => u1 (YC n) (fe x)
  | .fld ag off n x => u1 (Xf ag off n) (fe x)
  | .ixa n s x i => u2 (r_ixa n s) (fe x) (fe i)
  | .ixs s x i => u2 (r_ixs s) (fe x) (fe i)
  | .idxa ag n s x i => u2 (r_idxa ag n s) (fe x) (fe i)
  | .idxs x i => u2 XD (fe x) (fe i)
  | .apps e s x => u2 (r_apps e) (fe s) (fe x)
  | .lookV kt z x k ok => u2 (fun x k => Wc kt z x k ok) (fe x) (fe k)
  | .msetV kt m k x => u3 (r_msetV kt) (fe m) (fe k) (fe x)
  | .look f z x k ok => u2 (fun x k => r_look f z x k ok) (fe x) (fe k)
  | .mset f m k x => u3 (r_mset f) (fe m) (fe k) (fe x)
  | .tas t z x ok => u1 (fun x => r_tas t z x ok) (fe x)
  | .ext i x => u1 (r_ext i) (fe x)
  | .call f args => fcallo f (args.map fe)
  | .app e n b s x => u2 (YY e n b) (fe s) (fe x)
  | .lens x => u1 Xo (fe x)
  | .len x => u1 Xl (fe x)
  | .lenm x => u1 r_lenm (fe x)
  | .copy n d s => u2 (r_copy n) (fe d) (fe s)
  | .bi b ts t cs args => fbi b ts t cs (args.map fe)
  | .panic x => u1 Wb (fe x)
  | .dfr x => u1 r_dfr (fe x)
  | .rcv => fun E call t h => r_rcv E call (act t) h
theorem fop_eq (o : COp) (E : Env) (call : Call) (t : Tr D) (h : H) : fop o E call t h = den o E call (act t) h := by
  cases o
  case bin op ty ox oy x y => exact (fbin_eq op ty ox oy _ _ E call t h).trans (by simp only [XH]; rfl)
  case ld1 x => exact fld1_eq _ E call t h x (XH x t).symm
  case ldN n x => exact fldN_eq n _ E call t h x (XH x t).symm
  case st n x y => exact fst1_eq n _ _ E call t h x y (XH x t).symm (XH y t).symm
  case call f args => exact fcallo_eq f args E call t h
  case build z ps => simp only [fop, ZR, den, r_build, ffill_eq]; rfl
  case buildSl e n z ps => simp only [fop, Y6, den, XW, ffill_eq, fnew_eq]; cases fillD (act t) z ps <;> rfl
  case mkf fn xs ys => simp only [fop, fmkf, den, r_mkf, evs_eq]
  case bi b ts ty cs args => simp only [fop, fbi, den, r_bi, evs_eq]; rfl
  case alloc ty z => simp only [fop, Zr, den, r_alloc, fnew_eq]
  case box ty x => simp only [fop, X0, den, r_box, fnew_eq, XH]
  case mkmap => simp only [fop, fmkmap, den, r_mkmap, fnew_eq]
  case slstr x lo hi => exact fslstr_eq x lo hi E call t h
  case slsl s x lo hi => simp only [fop, uo, den, r_slsl, og_eq, XH, AAct.eval]
  case slarr n s x lo hi => simp only [fop, uo, den, Wa, og_eq, XH, AAct.eval]
  case cint k x =>
    simp only [fop, fcint, den, r_cint, XH, wrapQ_eq]; rfl
  case pick c x y => simp only [fop, ZO, den, r_pick, XH]; rfl
  case mv x => simp only [fop, fmv, den, r_mv, XH]
  all_goals first
    | rfl
    | (simp only [fop, u1, u2, u3, XH]; rfl)
end Go.Abs
namespace Go.Abs
inductive XT where
  | out (e : AExit) (t : Tr D) (h : H)
  | panic (d : D) (h : H)
  | fail (why : String)
def Ok (x : XT) (y : X) : Prop :=
  match x with
  | .out e t h => y = .out e (act t) h
  | .panic d h => ∃ a : AAct, y = .panic d a h ∧ a.defers = []
  | .fail _ => True
abbrev FR := Env → Call → Tr D → H → XT
abbrev FD := Env → Call → List Rec → Tr D → H → XT
abbrev FC := Env → Call → Nat → Tr D → H → XT
def Z2 : FR := fun E call t h => .out .normal t h
def fo (f : FOp) (p : D → Tr D → Tr D) (k : FR) : FR := fun E call t h => O.casesOn (motive := fun _ => XT) (f E call t h) (fun d h' => k E call (p d t) h') (fun d h' => .panic d h') (fun w => .fail w)
def wanted (d : D) (want : Bool) : Bool :=
  match d with
  | .v (.bool b) => bif b then want else !want
  | _ => false
def fog (g : Tr D → D) (want : Bool) (f : FOp) (p : D → Tr D → Tr D) (k : FR) : FR := fun E call t h =>
  bif wanted (g t) want then fo f p k E call t h else k E call (p Yr t) h
def fops : List CO → FR
  | [] => Z2
  | o :: r => match o.guard with
    | none => fo (fop o.op) (fput o.dst) (fops r)
    | some (t, w) => fog (gF (t + 1) t) w (fop o.op) (fput o.dst) (fops r)
theorem wanted_none {o : CO} {t : Tr D} (hg : o.guard = none) : ZY (act t) o = true := by simp [ZY, hg]
theorem wanted_some {o : CO} {t : Tr D} {n : Nat} {w : Bool} (hg : o.guard = some (n, w)) : ZY (act t) o = wanted (gF (n + 1) n t) w := by
  simp only [ZY, hg, gF_eq _ _ t (Nat.lt_succ_self n)]
  show (match t.get n with
    | some (.v (.bool b)) => bif b then w else !w
    | _ => false) = _
  cases t.get n with
  | none => rfl
  | some d =>
    cases d <;> try rfl
    rename_i x; cases x <;> rfl
theorem fops_ok (E : Env) (call : Call) : ∀ (l : List CO) (t : Tr D) (h : H), Ok (fops l E call t h) (Yj E call l (act t) h)
  | [], t, h => rfl
  | o :: r, t, h => by
    have key : ZY (act t) o = true → Ok (fo (fop o.op) (fput o.dst) (fops r) E call t h) (Yj E call (o :: r) (act t) h) := by
      intro hw
      simp only [fo, fop_eq, Yj, hw, cond_true]
      split
      · rename_i f he
        simp only [he, den, r_dfr, Ok]
      · show Ok (O.casesOn (motive := fun _ => XT) (den o.op E call (act t) h) (fun d h' => fops r E call (fput o.dst d t) h') (fun d h' => .panic d h') (fun w => .fail w)) (match crun E call (act t) o.op h with
          | .ok d h => Yj E call r ((act t).put o.dst d) h
          | .panic d h => .panic d (act t) h
          | .fail w => .fail w)
        rw [crun]
        cases den o.op E call (act t) h with
        | ok d h' =>
          show Ok (fops r E call (fput o.dst d t) h') (Yj E call r ((act t).put o.dst d) h')
          rw [← fput_eq]; exact fops_ok E call r _ _
        | panic d h' => exact ⟨act t, rfl, rfl⟩
        | fail w => exact trivial
    cases hg : o.guard with
    | none => simp only [fops, hg]; exact key (wanted_none hg)
    | some q =>
      obtain ⟨n, w⟩ := q
      simp only [fops, hg, fog]
      cases hw : wanted (gF (n + 1) n t) w with
      | true => simp only [cond_true]; exact key ((wanted_some hg).trans hw)
      | false =>
        have : ZY (act t) o = false := (wanted_some hg).trans hw
        simp only [cond_false, Yj, this]
        rw [← fput_eq]; exact fops_ok E call r _ _
def Y2 : FD := fun E call recs t h => .out .normal t h
def fdbad : FD := fun E call recs t h => .fail "draw"
def fdo (f : FOp) (p : D → Tr D → Tr D) (k : FD) : FD := fun E call recs t h => O.casesOn (motive := fun _ => XT) (f E call t h) (fun d h' => k E call recs (p d t) h') (fun _ _ => .fail "draw: panic") (fun w => .fail w)
def fdr (i : Nat) (inc : List Nat) (n : Nat) (g : Tr D → D) (f : FOp) (p : D → Tr D → Tr D) (k : FD) : FD := fun E call recs t h => O.casesOn (motive := fun _ => XT) (f E call t h)
  (fun d h' => match Za h (g t) n with
    | some cs => bif X9 inc (g t) cs recs then k E call (.rd i (g t) cs :: recs) (p d t) h' else .fail "draw: read"
    | none => .fail "draw: cells") (fun _ _ => .fail "draw: panic") (fun w => .fail w)
def fdrb (i : Nat) (inc : List Nat) (g : Tr D → D) (f : FOp) (p : D → Tr D → Tr D) (k : FD) : FD := fun E call recs t h => O.casesOn (motive := fun _ => XT) (f E call t h)
  (fun d h' => match Za h (rowOf (g t)).1 (rowOf (g t)).2 with
    | some cs => bif X9 inc (rowOf (g t)).1 cs recs then k E call (.rd i (rowOf (g t)).1 cs :: recs) (p d t) h' else .fail "draw: read"
    | none => .fail "draw: cells") (fun _ _ => .fail "draw: panic") (fun w => .fail w)
def fdl (i : Nat) (inc : List Nat) (f : FOp) (p : D → Tr D → Tr D) (k : FD) : FD := fun E call recs t h => O.casesOn (motive := fun _ => XT) (f E call t h)
  (fun d h' => bif YL inc h' recs then k E call (.loud i h :: recs) (p d t) h' else .fail "draw: loud") (fun _ _ => .fail "draw: panic") (fun w => .fail w)
def fdp (i : Nat) (inc : List Nat) (f : FOp) (p : D → Tr D → Tr D) (k : FD) : FD := fun E call recs t h => O.casesOn (motive := fun _ => XT) (f E call t h)
  (fun d h' => bif YL inc h' recs then k E call (.loud i h :: recs) (p d t) h' else .fail "draw: loud") (fun d h' => .panic d h') (fun w => .fail w)
def isCall : COp → Bool
  | .call .. => true
  | _ => false
def fdg (g : Tr D → D) (want : Bool) (y : FD → FD) (p : D → Tr D → Tr D) (k : FD) : FD := fun E call recs t h =>
  bif wanted (g t) want then y k E call recs t h else k E call recs (p Yr t) h
def fdop (i : Nat) (inc : List Nat) (lt : Bool) (o : CO) : FD → FD :=
  match o.op with
  | .ld1 x => fdr i inc 1 (fe x) (fop o.op) (fput o.dst)
  | .ldN n x => fdr i inc n (fe x) (fop o.op) (fput o.dst)
  | .b2s x => fdrb i inc (fe x) (fop o.op) (fput o.dst)
  | _ => bif YJ o.op then (bif lt && isCall o.op then fdp i inc (fop o.op) (fput o.dst) else fdl i inc (fop o.op) (fput o.dst)) else fdo (fop o.op) (fput o.dst)
def fdops : Nat → List (List Nat) → List CO → FD
  | _, _, [] => Y2
  | _, [], _ :: _ => fdbad
  | i, inc :: Yg, o :: r => match o.guard with
    | none => fdop i inc (later i Yg) o (fdops (i + 1) Yg r)
    | some (t, w) => fdg (gF (t + 1) t) w (fdop i inc (later i Yg) o) (fput o.dst) (fdops (i + 1) Yg r)
theorem fdops_ok (E : Env) (call : Call) : ∀ (l : List CO) (i : Nat) (recs : List Rec) (Yg : List (List Nat)) (t : Tr D) (h : H), Ok (fdops i Yg l E call recs t h) (YI E call i recs Yg l (act t) h)
  | [], i, recs, Yg, t, h => by cases Yg <;> rfl
  | o :: r, i, recs, [], t, h => trivial
  | o :: r, i, recs, inc :: Yg, t, h => by
    have ih := fun recs t h => fdops_ok E call r (i + 1) recs Yg t h
    have key : ZY (act t) o = true → Ok (fdop i inc (later i Yg) o (fdops (i + 1) Yg r) E call recs t h) (YI E call i recs (inc :: Yg) (o :: r) (act t) h) := by
      intro hw
      have rd : ∀ n x, YW (act t) o.op = some ((act t).eval x, n) → Ok (fdr i inc n (fe x) (fop o.op) (fput o.dst) (fdops (i + 1) Yg r) E call recs t h) (YI E call i recs (inc :: Yg) (o :: r) (act t) h) := by
        intro n x hr
        simp only [fdr, fop_eq, YI, hw, cond_true, crun]
        cases den o.op E call (act t) h with
        | ok d h' =>
          simp only [hr, XH]
          cases Za h ((act t).eval x) n with
          | none => exact trivial
          | some cs =>
            simp only []
            cases X9 inc ((act t).eval x) cs recs with
            | false => exact trivial
            | true => simp only [cond_true]; rw [← fput_eq]; exact ih _ _ _
        | panic d h' => exact trivial
        | fail w => exact trivial
      have rb : ∀ x, YW (act t) o.op = some (rowOf ((act t).eval x)) → Ok (fdrb i inc (fe x) (fop o.op) (fput o.dst) (fdops (i + 1) Yg r) E call recs t h) (YI E call i recs (inc :: Yg) (o :: r) (act t) h) := by
        intro x hr
        simp only [fdrb, fop_eq, YI, hw, cond_true, crun]
        cases den o.op E call (act t) h with
        | ok d h' =>
          simp only [hr, XH]
          cases Za h (rowOf ((act t).eval x)).1 (rowOf ((act t).eval x)).2 with
          | none => exact trivial
          | some cs =>
            simp only []
            cases X9 inc (rowOf ((act t).eval x)).1 cs recs with
            | false => exact trivial
            | true => simp only [cond_true]; rw [← fput_eq]; exact ih _ _ _
        | panic d h' => exact trivial
        | fail w => exact trivial
      have oth : YW (act t) o.op = none → Ok ((bif YJ o.op then (bif later i Yg && isCall o.op then fdp i inc (fop o.op) (fput o.dst) else fdl i inc (fop o.op) (fput o.dst)) else fdo (fop o.op) (fput o.dst)) (fdops (i + 1) Yg r) E call recs t h) (YI E call i recs (inc :: Yg) (o :: r) (act t) h) := by
        intro hr
        cases hl : YJ o.op with
        | true =>
          cases hb : later i Yg && isCall o.op with
          | false =>
            simp only [cond_true, cond_false, fdl, fop_eq, YI, hw, crun]
            cases den o.op E call (act t) h with
            | ok d h' =>
              simp only [hr, hl, cond_true]
              cases YL inc h' recs with
              | false => exact trivial
              | true => simp only [cond_true]; rw [← fput_eq]; exact ih _ _ _
            | panic d h' => exact trivial
            | fail w => exact trivial
          | true =>
            simp only [Bool.and_eq_true] at hb
            simp only [cond_true, fdp, fop_eq, YI, hw, crun]
            cases den o.op E call (act t) h with
            | ok d h' =>
              simp only [hr, hl, cond_true]
              cases YL inc h' recs with
              | false => exact trivial
              | true => simp only [cond_true]; rw [← fput_eq]; exact ih _ _ _
            | panic d h' =>
              have h0 : isNil (act t).defers = true := rfl
              simp only [hl, hb.1, h0, Bool.true_or, Bool.and_self, cond_true]
              exact ⟨act t, rfl, rfl⟩
            | fail w => exact trivial
        | false =>
          simp only [cond_true, cond_false, fdo, fop_eq, YI, hw, crun]
          cases den o.op E call (act t) h with
          | ok d h' => simp only [hr, hl, cond_false]; rw [← fput_eq]; exact ih _ _ _
          | panic d h' => exact trivial
          | fail w => exact trivial
      obtain ⟨od, og, oo⟩ := o
      cases oo with
      | ld1 x => exact rd 1 x rfl
      | ldN n x => exact rd n x rfl
      | b2s x => exact rb x rfl
      | _ => exact oth rfl
    cases hg : o.guard with
    | none => simp only [fdops, hg]; exact key (wanted_none hg)
    | some q =>
      obtain ⟨n, w⟩ := q
      simp only [fdops, hg, fdg]
      cases hw : wanted (gF (n + 1) n t) w with
      | true => simp only [cond_true]; exact key ((wanted_some hg).trans hw)
      | false =>
        have : ZY (act t) o = false := (wanted_some hg).trans hw
        simp only [cond_false, YI, this]
        rw [← fput_eq]; exact ih _ _ _
def Z9 : FC := fun E call n t h => Nat.casesOn (motive := fun _ => XT) n (.fail "fuel") (fun _ => .out .normal t h)
def Yh (id : Nat) : FC := fun E call n t h => Nat.casesOn (motive := fun _ => XT) n (.fail "fuel") (fun _ => .out (.exit id) t h)
def Ze : FC := fun E call n t h => Nat.casesOn (motive := fun _ => XT) n (.fail "fuel") (fun _ => .out .ret t h)
def fbad : FC := fun E call n t h => .fail "bad"
def Z1 (r : FR) : FC := fun E call n t h => Nat.casesOn (motive := fun _ => XT) n (.fail "fuel") (fun _ => r E call t h)
def Y1 (r : FD) : FC := fun E call n t h => Nat.casesOn (motive := fun _ => XT) n (.fail "fuel") (fun _ => r E call [] t h)
def Z0 (x y : FC) : FC := fun E call n t h => Nat.casesOn (motive := fun _ => XT) n (.fail "fuel") (fun n => XT.casesOn (motive := fun _ => XT) (x E call n t h)
  (fun e t h => AExit.casesOn (motive := fun _ => XT) e (y E call n t h) (fun id => .out (.exit id) t h) (.out .ret t h)) (fun d h => .panic d h) (fun w => .fail w))
def Z6 (g : Tr D → D) (x y : FC) : FC := fun E call n t h => Nat.casesOn (motive := fun _ => XT) n (.fail "fuel") (fun n => match g t with
  | .v (.bool b) => bif b then x E call n t h else y E call n t h
  | _ => .fail "cond")
def Zb (id : Nat) (x : FC) : FC := fun E call n t h => Nat.casesOn (motive := fun _ => XT) n (.fail "fuel") (fun n => XT.casesOn (motive := fun _ => XT) (x E call n t h)
  (fun e t h => AExit.casesOn (motive := fun _ => XT) e (.out .normal t h) (fun k => bif Nat.beq k id then .out .normal t h else .out (.exit k) t h) (.out .ret t h)) (fun d h => .panic d h) (fun w => .fail w))
def Y3 (x : FC) (E : Env) (call : Call) : Nat → Tr D → H → XT
  | 0, _, _ => .fail "fuel"
  | n + 1, t, h => XT.casesOn (motive := fun _ => XT) (x E call n t h)
      (fun e t h => AExit.casesOn (motive := fun _ => XT) e (Y3 x E call n t h) (fun k => .out (.exit k) t h) (.out .ret t h)) (fun d h => .panic d h) (fun w => .fail w)
def X1 : CC → FC
  | .skip => Z9
  | .ops l => Z1 (fops l)
  | .draw inc l => Y1 (fdops 0 inc l)
  | .seq a b => Z0 (X1 a) (X1 b)
  | .cond c a b => Z6 (fe c) (X1 a) (X1 b)
  | .block id c => Zb id (X1 c)
  | .loop c => Y3 (X1 c)
  | .exit id => Yh id
  | .ret => Ze
  | .stop => fbad
  | .back .. => fbad
theorem fcode_ok (E : Env) (call : Call) : ∀ (c : CC) (n : Nat) (t : Tr D) (h : H), Ok (X1 c E call n t h) (ZI E call n c (act t) h) := by
  intro c
  induction c with
  | skip => intro n t h; cases n <;> first | trivial | rfl
  | ops l => intro n t h; cases n with
    | zero => trivial
    | succ n => exact fops_ok E call l t h
  | draw inc l => intro n t h; cases n with
    | zero => trivial
    | succ n => exact fdops_ok E call l 0 [] inc t h
  | seq a b iha ihb =>
    intro n t h
    cases n with
    | zero => trivial
    | succ n =>
      have h1 := iha n t h
      simp only [X1, Z0, ZI]
      cases hx : X1 a E call n t h with
      | out e t' h' =>
        rw [hx] at h1
        have h1 : ZI E call n a (act t) h = .out e (act t') h' := h1
        rw [h1]
        cases e with
        | normal => exact ihb n t' h'
        | exit id => rfl
        | ret => rfl
      | panic d h' =>
        rw [hx] at h1
        obtain ⟨a', h2, h3⟩ := h1
        rw [h2]; exact ⟨a', rfl, h3⟩
      | fail w => trivial
  | cond c a b iha ihb =>
    intro n t h
    cases n with
    | zero => trivial
    | succ n =>
      simp only [X1, Z6, ZI, XH]
      split
      · rename_i b' he
        rw [he]
        cases b' with
        | true => exact iha n t h
        | false => exact ihb n t h
      · trivial
  | block id a iha =>
    intro n t h
    cases n with
    | zero => trivial
    | succ n =>
      have h1 := iha n t h
      simp only [X1, Zb, ZI]
      cases hx : X1 a E call n t h with
      | out e t' h' =>
        rw [hx] at h1
        have h1 : ZI E call n a (act t) h = .out e (act t') h' := h1
        rw [h1]
        cases e with
        | normal => rfl
        | exit k => simp only []; cases Nat.beq k id <;> rfl
        | ret => rfl
      | panic d h' =>
        rw [hx] at h1
        obtain ⟨a', h2, h3⟩ := h1
        rw [h2]; exact ⟨a', rfl, h3⟩
      | fail w => trivial
  | loop a iha =>
    intro n
    induction n with
    | zero => intro t h; trivial
    | succ n ihn =>
      intro t h
      have h1 := iha n t h
      simp only [X1, Y3, ZI]
      cases hx : X1 a E call n t h with
      | out e t' h' =>
        rw [hx] at h1
        have h1 : ZI E call n a (act t) h = .out e (act t') h' := h1
        rw [h1]
        cases e with
        | normal => exact ihn t' h'
        | exit k => rfl
        | ret => rfl
      | panic d h' =>
        rw [hx] at h1
        obtain ⟨a', h2, h3⟩ := h1
        rw [h2]; exact ⟨a', rfl, h3⟩
      | fail w => trivial
  | exit id => intro n t h; cases n <;> first | trivial | rfl
  | ret => intro n t h; cases n <;> first | trivial | rfl
  | stop => intro n t h; trivial
  | back => intro n t h; trivial
abbrev FFn := Env → Nat → Call → List D → H → O D
def fres : List CRes → Tr D → H → O D
  | [] => fun t h => .ok (.tup []) h
  | [.t a] => fun t h => .ok (gF (a + 1) a t) h
  | [.t a, .t b] => fun t h => .ok (.tup [gF (a + 1) a t, gF (b + 1) b t]) h
  | [.t a, .t b, .t c] => fun t h => .ok (.tup [gF (a + 1) a t, gF (b + 1) b t, gF (c + 1) c t]) h
  | l => fun t h => YR ⟨l, .skip⟩ (act t) h
theorem geq (a : Nat) (t : Tr D) : gF (a + 1) a t = (act t).eval (.t a) := XH (.t a) t
theorem fres_eq (l : List CRes) (c : CC) (t : Tr D) (h : H) : fres l t h = YR ⟨l, c⟩ (act t) h := by
  unfold fres
  split <;> simp only [YR, X2, oneOf, geq]
def fargs : Nat → List (D → Tr D → Tr D) → List D → Tr D → Tr D
  | _, _, [], t => t
  | i, [], x :: xs, t => Tr.ofListFrom i (x :: xs) t
  | i, s :: ss, x :: xs, t => fargs (i + 1) ss xs (s x t)
def sets : Nat → Nat → List (D → Tr D → Tr D)
  | 0, _ => []
  | k + 1, i => pF (i + 1) i :: sets k (i + 1)
theorem fargs_eq : ∀ (xs : List D) (k i : Nat) (t : Tr D), fargs i (sets k i) xs t = Tr.ofListFrom i xs t
  | [], k, i, t => by cases k <;> rfl
  | x :: xs, 0, i, t => rfl
  | x :: xs, k + 1, i, t => by
    simp only [sets, fargs, Tr.ofListFrom]
    rw [fargs_eq xs k (i + 1), pF_eq]; rfl
def ffn (ss : List (D → Tr D → Tr D)) (res : Tr D → H → O D) (body : FC) : FFn := fun E n call args h => XT.casesOn (motive := fun _ => O D) (body E call n (fargs 0 ss args .nil) h)
  (fun e t h => AExit.casesOn (motive := fun _ => O D) e (res t h) (fun _ => .fail "exit") (res t h)) (fun d h => .panic d h) (fun w => .fail w)
def fcfn (k : Nat) (c : CFn) : FFn := ffn (sets k 0) (fres c.results) (X1 c.body)
def fslow (c : CFn) : FFn := fun E n call args h => match ZI E call n c.body (start args none) h with
  | .out e a h => match e with
    | .exit _ => .fail "exit"
    | _ => Xr E call n c none a h
  | .panic d a h => Xr E call n c (some d) a h
  | .fail w => .fail w
def flib (g : List D → H → O D) : FFn := fun E n call args h => g args h
def Yb (E : Env) (T : Nat → FFn) : Nat → Call
  | 0 => fun f args h => .fail "fuel"
  | n + 1 => fun f args h => T f E n (Yb E T n) args h
def NoFail (o : O D) : Prop :=
  match o with
  | .fail _ => False
  | _ => True
theorem fcfn_ok (E : Env) (k : Nat) (c : CFn) (n : Nat) (call : Call) (args : List D) (h : H) (hn : NoFail (fcfn k c E n call args h)) : fcfn k c E n call args h = fslow c E n call args h := by
  have hs : start args none = act (fargs 0 (sets k 0) args .nil) := by rw [fargs_eq]; rfl
  have h1 := fcode_ok E call c.body n (fargs 0 (sets k 0) args .nil) h
  rw [← hs] at h1
  simp only [fcfn, ffn, fslow] at hn ⊢
  cases hx : X1 c.body E call n (fargs 0 (sets k 0) args .nil) h with
  | out e t' h' =>
    rw [hx] at h1 hn
    have h1 : ZI E call n c.body (start args none) h = .out e (act t') h' := h1
    rw [h1]
    cases e with
    | normal => exact fres_eq c.results c.body t' h'
    | exit id => exact hn.elim
    | ret => exact fres_eq c.results c.body t' h'
  | panic d h' =>
    rw [hx] at h1
    obtain ⟨a', h2, h3⟩ := h1
    rw [h2]
    simp only [Xr, h3]
  | fail w => rw [hx] at hn; exact hn.elim
end Go.Abs
namespace Go.Abs
def Better (call call' : Call) : Prop := ∀ f ds h, NoFail (call f ds h) → call' f ds h = call f ds h
def XNoFail (x : X) : Prop :=
  match x with
  | .fail _ => False
  | _ => True
section
variable {E : Env} {call call' : Call}
theorem callD_mono (hb : Better call call') (f : D) (args : List D) (h : H) (hn : NoFail (callD call f args h)) : callD call' f args h = callD call f args h := by
  unfold callD at hn ⊢
  split
  · exact hb _ _ _ hn
  · exact hb _ _ _ hn
  · rfl
theorem den_mono (hb : Better call call') (o : COp) (a : AAct) (h : H) (hn : NoFail (den o E call a h)) : den o E call' a h = den o E call a h := by
  cases o
  case call f args => exact callD_mono hb _ _ _ hn
  all_goals rfl
theorem crunOps_mono (hb : Better call call') : ∀ (l : List CO) (a : AAct) (h : H), XNoFail (Yj E call l a h) → Yj E call' l a h = Yj E call l a h
  | [], a, h, hn => rfl
  | o :: r, a, h, hn => by
    simp only [Yj] at hn ⊢
    cases hw : ZY a o with
    | false =>
      simp only [hw, cond_false] at hn ⊢
      exact crunOps_mono hb r _ _ hn
    | true =>
      simp only [hw, cond_true] at hn ⊢
      have oth : ∀ op : COp, XNoFail (match crun E call a op h with
          | .ok d h => Yj E call r (a.put o.dst d) h
          | .panic d h => .panic d a h
          | .fail w => .fail w) → (match crun E call' a op h with
          | .ok d h => Yj E call' r (a.put o.dst d) h
          | .panic d h => .panic d a h
          | .fail w => .fail w) = (match crun E call a op h with
          | .ok d h => Yj E call r (a.put o.dst d) h
          | .panic d h => .panic d a h
          | .fail w => .fail w) := by
        intro op hn
        unfold crun at hn ⊢
        have hnf : NoFail (den op E call a h) := by
          cases hd : den op E call a h with
          | ok d h' => trivial
          | panic d h' => trivial
          | fail w => rw [hd] at hn; exact hn.elim
        rw [den_mono hb op a h hnf]
        cases hd : den op E call a h with
        | ok d h' => rw [hd] at hn; exact crunOps_mono hb r _ _ hn
        | panic d h' => rfl
        | fail w => rfl
      cases ho : o.op
      case dfr f =>
        simp only [ho] at hn ⊢
        split at hn
        · rename_i g x y he
          first
            | exact crunOps_mono hb r _ _ hn
            | (split <;> first | exact crunOps_mono hb r _ _ hn | rfl)
        · exact hn.elim
      all_goals
        simp only [ho] at hn ⊢
        rw [← ho] at hn ⊢
        exact oth o.op hn
theorem cdraw_mono (hb : Better call call') : ∀ (l : List CO) (i : Nat) (recs : List Rec) (Yg : List (List Nat)) (a : AAct) (h : H), XNoFail (YI E call i recs Yg l a h) → YI E call' i recs Yg l a h = YI E call i recs Yg l a h
  | [], i, recs, Yg, a, h, hn => by cases Yg <;> rfl
  | o :: r, i, recs, [], a, h, hn => rfl
  | o :: r, i, recs, inc :: Yg, a, h, hn => by
    simp only [YI] at hn ⊢
    cases hw : ZY a o with
    | false =>
      simp only [hw, cond_false] at hn ⊢
      exact cdraw_mono hb r _ _ _ _ _ hn
    | true =>
      simp only [hw, cond_true] at hn ⊢
      unfold crun at hn ⊢
      have hnf : NoFail (den o.op E call a h) := by
        cases hd : den o.op E call a h with
        | ok d h' => trivial
        | panic d h' => trivial
        | fail w => rw [hd] at hn; exact hn.elim
      rw [den_mono hb o.op a h hnf]
      cases hd : den o.op E call a h with
      | ok d h' =>
        simp only [hd] at hn ⊢
        cases hr : YW a o.op with
        | some q =>
          obtain ⟨x, n⟩ := q
          simp only [hr] at hn ⊢
          cases hc : Za h x n with
          | none => rfl
          | some cs =>
            simp only [hc] at hn ⊢
            cases hk : X9 inc x cs recs with
            | false => rfl
            | true => simp only [hk, cond_true] at hn ⊢; exact cdraw_mono hb r _ _ _ _ _ hn
        | none =>
          simp only [hr] at hn ⊢
          cases hl : YJ o.op with
          | true =>
            simp only [hl, cond_true] at hn ⊢
            cases hk : YL inc h' recs with
            | false => rfl
            | true => simp only [hk, cond_true] at hn ⊢; exact cdraw_mono hb r _ _ _ _ _ hn
          | false => simp only [hl, cond_false] at hn ⊢; exact cdraw_mono hb r _ _ _ _ _ hn
      | panic d h' => rfl
      | fail w => rfl
theorem aback_mono {run run' : AAct → H → X} (hr : ∀ a h, XNoFail (run a h) → run' a h = run a h) (mk : Nat → D → AAct) (a : AAct) : ∀ (l : List (Nat × D)) (h : H), XNoFail (aback run mk a l h) → aback run' mk a l h = aback run mk a l h
  | [], h, hn => rfl
  | (i, d) :: r, h, hn => by
    simp only [aback] at hn ⊢
    have hnf : XNoFail (run (mk i d) h) := by
      cases hd : run (mk i d) h with
      | out e a h' => trivial
      | panic d h' => trivial
      | fail w => rw [hd] at hn; exact hn.elim
    rw [hr _ _ hnf]
    cases hd : run (mk i d) h with
    | out e a' h' =>
      rw [hd] at hn
      cases e with
      | normal => exact aback_mono hr mk a r h' hn
      | exit id => rfl
      | ret => rfl
    | panic d h' => rfl
    | fail w => rfl
theorem XS (hb : Better call call') : ∀ (n : Nat) (c : CC) (a : AAct) (h : H), XNoFail (ZI E call n c a h) → ZI E call' n c a h = ZI E call n c a h
  | 0, c, a, h, hn => rfl
  | n + 1, c, a, h, hn => by
    have nf : ∀ (c : CC) (a : AAct) (h : H) (k : X → X), (∀ w, k (.fail w) = .fail w) → XNoFail (k (ZI E call n c a h)) → ZI E call' n c a h = ZI E call n c a h := fun c a h k hk hn => by
      refine XS hb n c a h ?_
      cases hd : ZI E call n c a h with
      | out e a h' => trivial
      | panic d h' => trivial
      | fail w => rw [hd, hk] at hn; exact hn.elim
    cases c with
    | skip => rfl
    | ops l => exact crunOps_mono hb l a h hn
    | draw inc l => exact cdraw_mono hb l 0 [] inc a h hn
    | seq x y =>
      simp only [ZI] at hn ⊢
      rw [nf x a h (fun r => match r with
        | .out .normal a h => ZI E call n y a h
        | r => r) (fun _ => rfl) hn]
      cases hd : ZI E call n x a h with
      | out e a' h' =>
        rw [hd] at hn
        cases e with
        | normal => exact XS hb n y a' h' hn
        | exit id => rfl
        | ret => rfl
      | panic d h' => rfl
      | fail w => rfl
    | cond c x y =>
      simp only [ZI] at hn ⊢
      split
      · rename_i b he
        simp only [he] at hn
        cases b with
        | true => exact XS hb n x a h hn
        | false => exact XS hb n y a h hn
      · rfl
    | block id x =>
      simp only [ZI] at hn ⊢
      rw [nf x a h (fun r => match r with
        | .out (.exit k) a h => bif Nat.beq k id then .out .normal a h else .out (.exit k) a h
        | r => r) (fun _ => rfl) hn]
    | loop x =>
      simp only [ZI] at hn ⊢
      rw [nf x a h (fun r => match r with
        | .out .normal a h => ZI E call n (.loop x) a h
        | r => r) (fun _ => rfl) hn]
      cases hd : ZI E call n x a h with
      | out e a' h' =>
        rw [hd] at hn
        cases e with
        | normal => exact XS hb n (.loop x) a' h' hn
        | exit id => rfl
        | ret => rfl
      | panic d h' => rfl
      | fail w => rfl
    | exit id => rfl
    | ret => rfl
    | stop => rfl
    | back ag size gs f x y assign body =>
      simp only [ZI] at hn ⊢
      split
      · rename_i gg p he
        simp only [he] at hn
        cases hm : YF gg gs with
        | false => rfl
        | true =>
          simp only [hm, cond_true] at hn ⊢
          split
          · rename_i s hs
            simp only [hs] at hn
            split
            · rename_i k cs hk
              simp only [hk] at hn
              refine aback_mono (fun a h hn => ?_) _ a _ h hn
              rw [nf assign a h (fun r => match r with
                | .out .normal a h => ZI E call n body a h
                | r => r) (fun _ => rfl) hn]
              cases hd : ZI E call n assign a h with
              | out e a' h' =>
                rw [hd] at hn
                cases e with
                | normal => exact XS hb n body a' h' hn
                | exit id => rfl
                | ret => rfl
              | panic d h' => rfl
              | fail w => rfl
            · rfl
          · rfl
      · rfl
theorem cdefer_mono (hb : Better call call') (n : Nat) (df : D) (r : Option D) (h h' : H) (hn : cdefer E call n df r h = some h') : cdefer E call' n df r h = some h' := by
  unfold cdefer at hn ⊢
  split
  · split
    · rename_i g x y _ p hp
      simp only [hp] at hn
      have hnf : XNoFail (ZI E call n p.2 ((start (x ++ y) none).put p.1 (recD r)) h) := by
        cases hd : ZI E call n p.2 ((start (x ++ y) none).put p.1 (recD r)) h with
        | out e a h' => trivial
        | panic d h' => trivial
        | fail w => rw [hd] at hn; cases hn
      rw [XS hb n _ _ _ hnf]
      exact hn
    · rename_i hp; simp only [hp] at hn; cases hn
  · rename_i hno
    split at hn
    · rename_i g x y; exact absurd rfl (hno g x y)
    · cases hn
theorem cleave_mono (hb : Better call call') (n : Nat) (fn : CFn) (r : Option D) (a : AAct) (h : H) (hn : NoFail (Xr E call n fn r a h)) : Xr E call' n fn r a h = Xr E call n fn r a h := by
  unfold Xr at hn ⊢
  split
  · rfl
  · rename_i df hd
    simp only [hd] at hn
    cases hc : cdefer E call n df r h with
    | none => simp only [hc] at hn; exact hn.elim
    | some h' => rw [cdefer_mono hb n df r h h' hc]
  · rfl
end
def cbody (E : Env) (n : Nat) (call : Call) (f : Nat) (args : List D) (h : H) : O D :=
  match E.lib f with
  | some g => g args h
  | none => match E.fns f with
    | none => .fail ("no function " ++ toString f)
    | some fn => fslow fn E n call args h
theorem ccall_succ (E : Env) (n f : Nat) (args : List D) (h : H) : ccall E (n + 1) f args h = cbody E n (ccall E n) f args h := by
  simp only [ccall, cbody, fslow]
  cases E.lib f with
  | some g => rfl
  | none => cases E.fns f with
    | none => rfl
    | some fn =>
      simp only []
      cases ZI E (ccall E n) n fn.body (start args none) h <;> rfl
theorem fslow_mono {E : Env} {call call' : Call} (hb : Better call call') (fn : CFn) (n : Nat) (args : List D) (h : H) (hn : NoFail (fslow fn E n call args h)) : fslow fn E n call' args h = fslow fn E n call args h := by
  unfold fslow at hn ⊢
  have hnf : XNoFail (ZI E call n fn.body (start args none) h) := by
    cases hd : ZI E call n fn.body (start args none) h with
    | out e a h' => trivial
    | panic d h' => trivial
    | fail w => rw [hd] at hn; exact hn.elim
  rw [XS hb n _ _ _ hnf]
  cases hd : ZI E call n fn.body (start args none) h with
  | out e a h' =>
    rw [hd] at hn
    cases e with
    | normal => exact cleave_mono hb n fn none a h' hn
    | exit id => rfl
    | ret => exact cleave_mono hb n fn none a h' hn
  | panic d a h' => rw [hd] at hn; exact cleave_mono hb n fn (some d) a h' hn
  | fail w => rfl
theorem cbody_mono {E : Env} {call call' : Call} (hb : Better call call') (n f : Nat) (args : List D) (h : H) (hn : NoFail (cbody E n call f args h)) : cbody E n call' f args h = cbody E n call f args h := by
  unfold cbody at hn ⊢
  split
  · rfl
  · split
    · rfl
    · rename_i h1 _ fn h2
      simp only [h1, h2] at hn
      exact fslow_mono hb fn n args h hn
def Leaf (E : Env) (k : Nat) (q : FFn) : Prop := ∀ n call args h, NoFail (q E n call args h) → q E n call args h = cbody E n call k args h
def qnone : FFn := fun E n call args h => .fail "no function"
def Zs (k : Nat) (q : FFn) : Nat → FFn := fun f => bif Nat.beq f k then q else qnone
def Zt (m : Nat) (a b : Nat → FFn) : Nat → FFn := fun f => bif Nat.blt f m then a f else b f
def Tab (E : Env) (T : Nat → FFn) : Prop := ∀ f, Leaf E f (T f)
theorem leaf_none (E : Env) (k : Nat) : Leaf E k qnone := fun n call args h hn => hn.elim
theorem leaf_lib {E : Env} {k : Nat} {g : List D → H → O D} (hl : E.lib k = some g) : Leaf E k (flib g) := fun n call args h hn => by
  simp only [flib, cbody, hl]
theorem leaf_slow {E : Env} {k : Nat} {q : FFn} (hl : E.lib k = none) (hq : (E.fns k).map fslow = some q) : Leaf E k q := fun n call args h hn => by
  cases hf : E.fns k with
  | none => rw [hf] at hq; cases hq
  | some fn =>
    rw [hf] at hq
    cases hq
    simp only [cbody, hl, hf]
theorem leaf_fast {E : Env} {k m : Nat} {q : FFn} (hl : E.lib k = none) (hq : (E.fns k).map (fcfn m) = some q) : Leaf E k q := fun n call args h hn => by
  cases hf : E.fns k with
  | none => rw [hf] at hq; cases hq
  | some fn =>
    rw [hf] at hq
    cases hq
    simp only [cbody, hl, hf]
    exact fcfn_ok E m fn n call args h hn
theorem fcall_ok {E : Env} {T : Nat → FFn} (ht : Tab E T) : ∀ n f args h, NoFail (Yb E T n f args h) → ccall E n f args h = Yb E T n f args h
  | 0, f, args, h, hn => hn.elim
  | n + 1, f, args, h, hn => by
    have h1 : Yb E T (n + 1) f args h = cbody E n (Yb E T n) f args h := ht f n (Yb E T n) args h hn
    rw [h1] at hn
    rw [ccall_succ, h1]
    exact cbody_mono (fun f ds h hn => fcall_ok ht n f ds h hn) n f args h hn
def fnsOf (P : Program) (glob : Nat → Option (List D)) (f : Nat) : Option CFn :=
  match P.funcs[f]? with
  | some fn => bif fn.name == "runtime.NumGoroutine" then none else cfn P glob none fn
  | none => none
def dfrsOf (P : Program) (glob : Nat → Option (List D)) (f : Nat) : Option (Option Nat × CC) :=
  match P.funcs[f]? with
  | some fn => bif fn.name == "runtime.NumGoroutine" then none else cdfr P glob fn
  | none => none
def envOf (P : Program) (glob : Nat → Option (List D)) (lib : Nat → Option (List D → H → O D)) : Env := ⟨P, fnsOf P glob, lib, dfrsOf P glob⟩
theorem told (P : Program) (glob : Nat → Option (List D)) (lib : Nat → Option (List D → H → O D)) (ho : P.follows .mixedOrders = true) (hlib : ∀ f lf, lib f = some lf → Y4 P f lf glob) (hgrow : ∀ f lf, lib f = some lf → ∀ ds h, Xm h (lf ds h)) :
    Told P glob (envOf P glob lib) where
  prog := rfl
  orders := ho
  fns := fun f cf hf => by
    have hf : fnsOf P glob f = some cf := hf
    unfold fnsOf at hf
    split at hf
    · rename_i fn hfn
      cases hn : fn.name == "runtime.NumGoroutine" with
      | true => rw [hn] at hf; cases hf
      | false =>
        rw [hn] at hf
        exact ⟨fn, none, hfn, hn, hf, backSim_none⟩
    · cases hf
  dfrs := fun f p hf => by
    have hf : dfrsOf P glob f = some p := hf
    unfold dfrsOf at hf
    split at hf
    · rename_i fn hfn
      cases hn : fn.name == "runtime.NumGoroutine" with
      | true => rw [hn] at hf; cases hf
      | false =>
        rw [hn] at hf
        exact ⟨fn, hfn, hn, hf⟩
    · cases hf
  lib := hlib
  libgrow := hgrow
end Go.Abs
namespace Go.Abs
open Go.RowKit
def gTop (glob : Nat → Option (List D)) : G := { blk := fun _ => none, sl := fun _ _ => none, own := fun _ => none, imm := fun b o => match glob b with
  | some cs => cs[o]?
  | none => none }
def Holds (glob : Nat → Option (List D)) (w : World) : Prop := ∀ b cs o d, glob b = some cs → cs[o]? = some d → ∃ v, w.cell? ⟨b, o, none⟩ = some v ∧ ∀ g, VRel g d v
def hTop : H := ⟨1, .nil⟩
theorem r0 {P : Program} {glob : Nat → Option (List D)} {w : World} (hg : Holds glob w) {top : Nat} (ht : 1 ≤ top) : R P top (gTop glob) hTop w where
  obj := fun l o ho => by cases ho
  tip := fun id n e ho => by cases ho
  imm := fun b o d hd => by
    simp only [gTop] at hd
    split at hd
    · rename_i cs hc
      obtain ⟨v, hv, hr⟩ := hg b cs o d hc hd
      exact ⟨v, hv, hr _⟩
    · cases hd
  blkown := fun l b hb => by cases hb
  slown := fun id n b cap hb => by cases hb
  name := fun l _ _ => ⟨rfl, fun _ => rfl, fun b hb => by cases hb⟩
  dom := fun l _ => rfl
  le := ht
  block := fun _ _ => rfl
  pos := ⟨Nat.zero_lt_one, rfl⟩
  slblk := fun id n p hp => by cases hp
  ownk := fun b l hb => by cases hb
theorem glob0 {glob : Nat → Option (List D)} : Xa (gTop glob) glob := fun i cs hc => .ep fun o d hd => by
  simp only [gTop, hc, Nat.zero_add]; exact hd
theorem top_calls {P : Program} {glob : Nat → Option (List D)} {E : Env} (ht : Told P glob E) {n f : Nat} {ds : List D} {args : Array Value} {x : Value} {h' : H} (hrun : ccall E n f ds hTop = .ok (.v x) h')
    (hargs : ∀ g, ZS g ds args.toList) {w : World} (hg : Holds glob w) (hb : ∀ args w, (callFunc f args).run P w = .ok (.enter f args) w) :
    Calls P f args w fun e w' => e = .returned x ∧ Below w.heap.size w w' := by
  have hs := call_sim ht n f ds hTop false (.v x) h' hrun (h'.next + 1) (gTop glob) w args (Nat.le_succ _) (r0 hg (by omega)) glob0 (hargs _)
  rcases hs with ⟨_, hc⟩ | ⟨_, v, w', he, _⟩
  · refine hc.mono ?_
    rintro e w' ⟨v, rfl, g', hext, hr, hv⟩
    cases hv
    exact ⟨rfl, hext.os, hext.tape, hext.output, hext.size, fun k hk => hext.fr k hk (fun l hl => by cases hl)⟩
  · rw [hb] at he; cases he
def isT : O D → Bool
  | .ok (.v (.bool true)) _ => true
  | _ => false
theorem isT_eq {o : O D} (h : isT o = true) : ∃ h', o = .ok (.v (.bool true)) h' := by
  unfold isT at h
  split at h
  · exact ⟨_, rfl⟩
  · cases h
end Go.Abs
