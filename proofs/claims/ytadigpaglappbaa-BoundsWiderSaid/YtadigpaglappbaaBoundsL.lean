/- Plain laws of layer 11: what an operator tells of numbers in two ranges lies in the range that it tells of these. -/
import Derived.Test.YtadigpaglappbaaBoundsN
set_option linter.unusedVariables false
namespace Go.Proofs.Ytadigpaglappbaa.BoundsL
open Go.Proofs.Ytadigpaglappbaa.Word Go.Proofs.Ytadigpaglappbaa.BoundsN

def In (n : Int) (r : R) : Prop := r.lo ≤ n ∧ n ≤ r.hi

theorem told_ok {n : Int} {b : Bool} (h : (told n b).2 = 0) : b = true ∧ (told n b).1 = n := by
  cases b
  · simp [told] at h
  · exact ⟨rfl, rfl⟩
theorem told_true (n : Int) : told n true = (n, 0) := rfl

/-- An operator that rises on both sides. -/
def Rises (f : Int → Int → Int × Int) : Prop := ∀ x y x' y', U x → U y → U x' → U y' → x ≤ x' → y ≤ y' → (f x' y').2 = 0 → (f x y).2 = 0 ∧ (f x y).1 ≤ (f x' y').1
theorem rises_add : Rises add := by
  intro x y x' y' hx hy hx' hy' h1 h2 h
  obtain ⟨e1, e2⟩ := told_ok h
  have e3 := of_decide_eq_true e1
  have : decide (x + y ≤ top) = true := decide_eq_true (by omega)
  unfold add at *
  rw [this, e2]
  exact ⟨rfl, by rw [told_true]; show x + y ≤ x' + y'; omega⟩
theorem mul_mono {x y x' y' : Int} (hx : 0 ≤ x) (hy : 0 ≤ y) (h1 : x ≤ x') (h2 : y ≤ y') : x * y ≤ x' * y' :=
  Int.mul_le_mul h1 h2 hy (by omega)
theorem rises_mul : Rises mul := by
  intro x y x' y' hx hy hx' hy' h1 h2 h
  obtain ⟨e1, e2⟩ := told_ok h
  have e3 := of_decide_eq_true e1
  have e4 := mul_mono hx.1 hy.1 h1 h2
  have : decide (x * y ≤ top) = true := decide_eq_true (by omega)
  unfold mul at *
  rw [this, e2]
  exact ⟨rfl, by rw [told_true]; exact e4⟩
theorem pow_mono {m n : Nat} (h : m ≤ n) : (2 : Int) ^ m ≤ 2 ^ n := by
  have : (2 : Nat) ^ m ≤ 2 ^ n := Nat.pow_le_pow_right (by omega) h
  have e1 : ((2 ^ m : Nat) : Int) = 2 ^ m := by simp
  have e2 : ((2 ^ n : Nat) : Int) = 2 ^ n := by simp
  omega
theorem rises_shl : Rises shl := by
  intro x y x' y' hx hy hx' hy' h1 h2 h
  obtain ⟨e1, e2⟩ := told_ok h
  simp only [Bool.and_eq_true, decide_eq_true_eq] at e1
  have e4 : x * 2 ^ y.toNat ≤ x' * 2 ^ y'.toNat := mul_mono hx.1 (Int.le_of_lt (pow_pos' _)) h1 (pow_mono (by omega))
  have : (decide (y < 64) && decide (x * 2 ^ y.toNat ≤ top)) = true := by simp; omega
  unfold shl at *
  rw [this, e2]
  exact ⟨rfl, by rw [told_true]; exact e4⟩

theorem rising_in {f : Int → Int → Int × Int} (hf : Rises f) (hU : ∀ x y, U x → U y → U (f x y).1) {a b : R} {p q : Int} (ha : UR a) (hb : UR b) (hp : In p a) (hq : In q b) (up : U p) (uq : U q) (h : (f p q).2 = 0) :
    (rising f a b).2 = true ∧ In (f p q).1 (rising f a b).1 := by
  obtain ⟨e1, e2⟩ := hf a.lo b.lo p q ha.1 hb.1 up uq hp.1 hq.1 h
  unfold rising
  rw [if_pos e1]
  refine ⟨rfl, e2, ?_⟩
  unfold orTop
  show (f p q).1 ≤ if (f a.hi b.hi).2 = 0 then (f a.hi b.hi).1 else top
  split
  · rename_i h2
    exact (hf p q a.hi b.hi up uq ha.2 hb.2 hp.2 hq.2 h2).2
  · exact (hU p q up uq).2

theorem minus_in {a b : R} {p q : Int} (hp : In p a) (hq : In q b) (h : (sub p q).2 = 0) : (minus a b).2 = true ∧ In (sub p q).1 (minus a b).1 := by
  obtain ⟨e1, e2⟩ := told_ok h
  have e3 := of_decide_eq_true e1
  have e4 : (sub p q).1 = p - q := e2
  obtain ⟨p1, p2⟩ := hp
  obtain ⟨q1, q2⟩ := hq
  unfold minus
  rw [if_neg (by omega)]
  exact ⟨rfl, by show a.lo - min a.lo b.hi ≤ _; omega, by show _ ≤ a.hi - b.lo; omega⟩

theorem div_anti {p q r : Int} (hp : 0 ≤ p) (hq : 0 < q) (h : q ≤ r) : p / r ≤ p / q := by
  have h1 : p / r * r ≤ p := Int.ediv_mul_le p (by omega)
  have h2 : 0 ≤ p / r := Int.ediv_nonneg hp (by omega)
  refine (Int.le_ediv_iff_mul_le hq).2 ?_
  exact Int.le_trans (Int.mul_le_mul_of_nonneg_left h h2) h1

theorem over_div {a b : R} {p q : Int} (ha : UR a) (hb : UR b) (hp : In p a) (hq : In q b) (up : U p) (uq : U q) (h : (div p q).2 = 0) : (over a b false).2 = true ∧ In (div p q).1 (over a b false).1 := by
  have hq0 : q ≠ 0 := by intro e; subst e; simp [div] at h
  have e4 : (div p q).1 = p / q := by unfold div; rw [if_neg hq0]
  have q0 := uq.1
  have a0 := ha.1.1
  have b0 := hb.1.1
  obtain ⟨p1, p2⟩ := hp
  obtain ⟨q1, q2⟩ := hq
  unfold over
  rw [if_neg (by omega)]
  refine ⟨rfl, ?_, ?_⟩
  · show a.lo / b.hi ≤ _
    rw [e4]
    exact Int.le_trans (div_anti a0 (by omega) q2) (Int.ediv_le_ediv (by omega) p1)
  · show _ ≤ a.hi / max b.lo 1
    rw [e4]
    exact Int.le_trans (Int.ediv_le_ediv (by omega) p2) (div_anti (by omega) (by omega) (by omega))

theorem over_mod {a b : R} {p q : Int} (ha : UR a) (hb : UR b) (hp : In p a) (hq : In q b) (up : U p) (uq : U q) (h : (mod p q).2 = 0) : (over a b true).2 = true ∧ In (mod p q).1 (over a b true).1 := by
  have hq0 : q ≠ 0 := by intro e; subst e; simp [mod] at h
  have e4 : (mod p q).1 = p % q := by unfold mod; rw [if_neg hq0]
  have q0 := uq.1
  have p0 := up.1
  obtain ⟨p1, p2⟩ := hp
  obtain ⟨q1, q2⟩ := hq
  have m1 : 0 ≤ p % q := Int.emod_nonneg _ hq0
  have m2 : p % q < q := Int.emod_lt_of_pos _ (by omega)
  have m3 : p % q ≤ p := by
    have := Int.emod_def p q
    have h2 : 0 ≤ q * (p / q) := Int.mul_nonneg (by omega) (Int.ediv_nonneg (by omega) (by omega))
    omega
  unfold over
  rw [if_neg (by omega)]
  exact ⟨rfl, by show (0 : Int) ≤ _; omega, by show _ ≤ min a.hi (b.hi - 1); omega⟩

theorem down_in {a b : R} {p q : Int} (ha : UR a) (hb : UR b) (hp : In p a) (hq : In q b) (up : U p) (uq : U q) (h : (shr p q).2 = 0) : (down a b).2 = true ∧ In (shr p q).1 (down a b).1 := by
  obtain ⟨e1, e2⟩ := told_ok h
  have e3 := of_decide_eq_true e1
  have e4 : (shr p q).1 = p / 2 ^ q.toNat := e2
  have q0 := uq.1
  have a0 := ha.1.1
  have p0 := up.1
  have b0 := hb.1.1
  obtain ⟨p1, p2⟩ := hp
  obtain ⟨q1, q2⟩ := hq
  unfold down
  rw [if_neg (by omega)]
  refine ⟨rfl, ?_, ?_⟩
  · show a.lo / 2 ^ (min b.hi 63).toNat ≤ _
    rw [e4]
    exact Int.le_trans (div_anti a0 (pow_pos' _) (pow_mono (by omega))) (Int.ediv_le_ediv (pow_pos' _) p1)
  · show _ ≤ a.hi / 2 ^ b.lo.toNat
    rw [e4]
    exact Int.le_trans (Int.ediv_le_ediv (pow_pos' _) p2) (div_anti (by omega) (pow_pos' _) (pow_mono (by omega)))

theorem len_lt : ∀ (f x : Nat), x < 2 ^ f → x < 2 ^ Lib.bitLenAux f x
  | 0, x, h => by simpa [Lib.bitLenAux] using h
  | f + 1, x, h => by
    unfold Lib.bitLenAux
    split
    · omega
    · have h1 : x / 2 < 2 ^ f := by rw [Nat.pow_succ] at h; omega
      have h2 := len_lt f (x / 2) h1
      rw [Nat.add_comm, Nat.pow_succ]
      omega
theorem len_le : ∀ (f x : Nat), Lib.bitLenAux f x ≤ f
  | 0, x => by simp [Lib.bitLenAux]
  | f + 1, x => by
    unfold Lib.bitLenAux
    split
    · omega
    · have := len_le f (x / 2); omega
theorem bitLen_lt {x : Nat} (h : x < 2 ^ 64) : x < 2 ^ Lib.bitLen x := len_lt 64 x h
theorem bitLen_le (x : Nat) : Lib.bitLen x ≤ 64 := len_le 64 x
theorem lt_mask {x n : Nat} (h : x < 2 ^ n) (hn : n ≤ 64) : (x : Int) ≤ mask n := by
  unfold mask
  by_cases h0 : n = 0
  · subst h0; simp at h; simp [h]
  · rw [if_neg (by omega)]
    by_cases h1 : n < 64
    · rw [if_pos (by omega), Int.toNat_natCast]
      have e : ((2 ^ n : Nat) : Int) = 2 ^ n := by simp
      omega
    · have : n = 64 := by omega
      subst this
      rw [if_neg (by omega)]
      unfold top
      omega

theorem bor_in {a b : R} {p q : Int} (ha : UR a) (hb : UR b) (hp : In p a) (hq : In q b) (up : U p) (uq : U q) : In (bor p q) ⟨max a.lo b.lo, mask (Lib.bitLen (max a.hi b.hi).toNat)⟩ := by
  have p0 := up.1
  have q0 := uq.1
  have h1 := ha.2.hi
  have h2 := hb.2.hi
  obtain ⟨p1, p2⟩ := hp
  obtain ⟨q1, q2⟩ := hq
  refine ⟨?_, ?_⟩
  · show max a.lo b.lo ≤ _
    have l1 : p.toNat ≤ p.toNat ||| q.toNat := Nat.left_le_or
    have l2 : q.toNat ≤ p.toNat ||| q.toNat := Nat.right_le_or
    unfold bor
    omega
  · show _ ≤ mask _
    have h3 : (max a.hi b.hi).toNat < 2 ^ 64 := by omega
    have h4 := bitLen_lt h3
    refine lt_mask (Nat.or_lt_two_pow ?_ ?_) (bitLen_le _)
    · omega
    · omega
theorem band_in {a b : R} {p q : Int} (hp : In p a) (hq : In q b) (up : U p) (uq : U q) : In (band p q) ⟨0, min a.hi b.hi⟩ := by
  have p0 := up.1
  have q0 := uq.1
  obtain ⟨p1, p2⟩ := hp
  obtain ⟨q1, q2⟩ := hq
  have l1 : p.toNat &&& q.toNat ≤ p.toNat := Nat.and_le_left
  have l2 : p.toNat &&& q.toNat ≤ q.toNat := Nat.and_le_right
  exact ⟨by show (0 : Int) ≤ _; unfold band; omega, by show _ ≤ min a.hi b.hi; unfold band; omega⟩
theorem truth_in (b : Bool) : In (truth b) ⟨0, 1⟩ := by cases b <;> exact ⟨by decide, by decide⟩
theorem cmp_in (s : List UInt8) (p q : Int) : In (cmp s p q).1 ⟨0, 1⟩ := by
  unfold cmp
  repeat' (split; exact truth_in _)
  exact ⟨by decide, by decide⟩
theorem cmp_ok (s : List UInt8) (p q p' q' : Int) : (cmp s p q).2 = (cmp s p' q').2 := by
  unfold cmp
  repeat' (split; rfl)
  rfl

theorem wide_in (s : List UInt8) {a b : R} {p q : Int} (ha : UR a) (hb : UR b) (hp : In p a) (hq : In q b) (up : U p) (uq : U q) (h : (op s p q).2 = 0) :
    (wide s a b).2 = true ∧ In (op s p q).1 (wide s a b).1 := by
  unfold wide op at *
  by_cases c1 : (s == [43]) = true
  · simp only [c1, if_true] at h ⊢; exact rising_in rises_add (fun x y hx hy => add_U hx hy) ha hb hp hq up uq h
  by_cases c2 : (s == [45]) = true
  · simp only [c1, c2, if_true] at h ⊢; exact minus_in hp hq h
  by_cases c3 : (s == [42]) = true
  · simp only [c1, c2, c3, if_true] at h ⊢; exact rising_in rises_mul (fun x y hx hy => mul_U hx hy) ha hb hp hq up uq h
  by_cases c4 : (s == [47]) = true
  · simp only [c1, c2, c3, c4, if_true] at h ⊢; exact over_div ha hb hp hq up uq h
  by_cases c5 : (s == [37]) = true
  · simp only [c1, c2, c3, c4, c5, if_true] at h ⊢; exact over_mod ha hb hp hq up uq h
  by_cases c6 : (s == [60, 60]) = true
  · simp only [c1, c2, c3, c4, c5, c6, if_true] at h ⊢; exact rising_in rises_shl (fun x y hx hy => shl_U hx) ha hb hp hq up uq h
  by_cases c7 : (s == [62, 62]) = true
  · simp only [c1, c2, c3, c4, c5, c6, c7, if_true] at h ⊢; exact down_in ha hb hp hq up uq h
  by_cases c8 : (s == [38]) = true
  · simp only [c1, c2, c3, c4, c5, c6, c7, c8, if_true] at h ⊢; exact ⟨rfl, band_in hp hq up uq⟩
  by_cases c9 : (s == [124]) = true
  · simp only [c1, c2, c3, c4, c5, c6, c7, c8, c9, if_true] at h ⊢; exact ⟨rfl, bor_in ha hb hp hq up uq⟩
  simp only [c1, c2, c3, c4, c5, c6, c7, c8, c9] at h ⊢
  by_cases c : (cmp s p q).2 = true
  · have c' := c
    rw [cmp_ok s p q 0 1] at c'
    simp only [c, c', if_true]
    exact ⟨rfl, cmp_in s p q⟩
  · simp only [c] at h
    simp at h

/-- P11.2, P11.4: what an operator tells of numbers in two good ranges lies in the range of it. -/
theorem bop_in (s : List UInt8) {a b : R} {p q : Int} (ha : UR a) (hb : UR b) (hp : In p a) (hq : In q b) (h : (op s p q).2 = 0) :
    (bop s a b).2 = true ∧ In (op s p q).1 (bop s a b).1 := by
  have up : U p := ⟨Int.le_trans ha.1.1 hp.1, Int.le_trans hp.2 ha.2.2⟩
  have uq : U q := ⟨Int.le_trans hb.1.1 hq.1, Int.le_trans hq.2 hb.2.2⟩
  have g : a.lo ≤ a.hi ∧ b.lo ≤ b.hi := ⟨Int.le_trans hp.1 hp.2, Int.le_trans hq.1 hq.2⟩
  unfold bop
  rw [if_pos g]
  by_cases c : a.lo = a.hi ∧ b.lo = b.hi
  · have e1 : p = a.lo := by have := hp.1; have := hp.2; omega
    have e2 : q = b.lo := by have := hq.1; have := hq.2; omega
    subst e1 e2
    rw [if_pos c, if_pos h]
    exact ⟨rfl, Int.le_refl _, Int.le_refl _⟩
  · obtain ⟨w1, w2⟩ := wide_in s ha hb hp hq up uq h
    rw [if_neg c, if_pos w1]
    exact ⟨rfl, w2⟩
end Go.Proofs.Ytadigpaglappbaa.BoundsL
