/- Plain facts on lists of bits, the lowest first: what number they are, how a sum, a product and a masked number come about bit by bit. -/
import Derived.Test.YtmaphdhdfbgflaaGreatDoorWordN
set_option linter.unusedVariables false
namespace Go.Proofs.YtmaphdhdfbgflaaGreatDoor.BitsN
open Go.Proofs.YtmaphdhdfbgflaaGreatDoor.Word

def val : List Int → Int
  | [] => 0
  | x :: xs => x + 2 * val xs
def IsBits (xs : List Int) : Prop := ∀ x ∈ xs, x = 0 ∨ x = 1

theorem val_snoc (l : List Int) (x : Int) : val (l ++ [x]) = val l + 2 ^ l.length * x := by
  induction l with
  | nil => simp [val]
  | cons y l ih =>
    simp only [List.cons_append, val, ih, List.length_cons, Int.pow_succ, Int.mul_add]
    rw [Int.mul_comm (2 ^ l.length) 2, Int.mul_assoc]
    omega
theorem take_succ' (xs : List Int) (k : Nat) : val (xs.take (k + 1)) = val (xs.take k) + 2 ^ k * xs.getD k 0 := by
  by_cases h : k < xs.length
  · rw [List.take_succ_eq_append_getElem h, val_snoc]
    simp [List.getD, h]
    rw [Nat.min_eq_left (by omega)]
  · rw [List.take_of_length_le (by omega), List.take_of_length_le (by omega)]
    simp [List.getD, h]
theorem drop_eq (xs : List Int) (k : Nat) (h : k < xs.length) : val (xs.drop k) = xs.getD k 0 + 2 * val (xs.drop (k + 1)) := by
  rw [List.drop_eq_getElem_cons h]
  simp [val, List.getD, h]
theorem bit_getD {xs : List Int} (h : IsBits xs) (k : Nat) : xs.getD k 0 = 0 ∨ xs.getD k 0 = 1 := by
  by_cases hk : k < xs.length
  · have : xs.getD k 0 = xs[k] := by simp [List.getD, hk]
    rw [this]; exact h _ (List.getElem_mem hk)
  · simp [List.getD, hk]
theorem isBits_drop {xs : List Int} (h : IsBits xs) (k : Nat) : IsBits (xs.drop k) := fun x hx => h x (List.mem_of_mem_drop hx)
theorem val_nonneg {xs : List Int} (h : IsBits xs) : 0 ≤ val xs := by
  induction xs with
  | nil => simp [val]
  | cons x xs ih =>
    have h1 := ih (fun y hy => h y (List.mem_cons_of_mem _ hy))
    have h2 := h x List.mem_cons_self
    simp only [val]; omega
theorem isBits_set {xs : List Int} (h : IsBits xs) (k : Nat) {x : Int} (hx : x = 0 ∨ x = 1) : IsBits (xs.set k x) := by
  intro y hy
  rcases List.mem_or_eq_of_mem_set hy with h1 | h1
  · exact h y h1
  · subst h1; exact hx
theorem isBits_snoc {xs : List Int} (h : IsBits xs) {x : Int} (hx : x = 0 ∨ x = 1) : IsBits (xs ++ [x]) := by
  intro y hy
  rcases List.mem_append.1 hy with h1 | h1
  · exact h y h1
  · simp at h1; subst h1; exact hx

/-! ### a number of a list of bits: from the highest down -/
def cap (j : Nat) : Int := 2 ^ (64 - j)
theorem cap_step (i : Nat) (h : i < 64) : cap i = 2 * cap (i + 1) := by
  unfold cap
  have : 64 - i = (64 - (i + 1)) + 1 := by omega
  rw [this, Int.pow_succ, Int.mul_comm]
theorem cap_one (i : Nat) (h : 64 ≤ i) : cap i = 1 := by
  unfold cap
  rw [show 64 - i = 0 by omega]; rfl
theorem cap_le (i : Nat) : cap i ≤ 18446744073709551616 := pow_le _ (by omega)
theorem cap_succ_le (i : Nat) : cap (i + 1) ≤ 9223372036854775808 := by
  unfold cap
  have : (2 : Nat) ^ (64 - (i + 1)) ≤ 2 ^ 63 := Nat.pow_le_pow_right (by omega) (by omega)
  have e : ((2 ^ (64 - (i + 1)) : Nat) : Int) = 2 ^ (64 - (i + 1)) := by simp
  omega
def num (xs : List Int) : Int × Int := told (val xs) (decide (val xs ≤ top))
theorem val_drop_big {xs : List Int} (h : IsBits xs) (m : Nat) (hm : m < xs.length) (hx : xs.getD m 0 = 1) : ∀ k, k ≤ m → 2 ^ (m - k) ≤ val (xs.drop k) := by
  intro k hk
  generalize hd : m - k = d
  induction d generalizing k with
  | zero =>
    have : k = m := by omega
    subst this
    rw [drop_eq xs k hm, hx]
    have := val_nonneg (isBits_drop h (k + 1))
    simp; omega
  | succ d ih =>
    have h1 := ih (k + 1) (by omega) (by omega)
    rw [drop_eq xs k (by omega), Int.pow_succ]
    have := bit_getD h k
    omega
theorem num_out {xs : List Int} (h : IsBits xs) (m : Nat) (hm : m < xs.length) (h63 : 63 < m) (hx : xs.getD m 0 = 1) : (0, 5) = num xs := by
  have h1 := val_drop_big h m hm hx 0 (by omega)
  simp only [List.drop_zero, Nat.sub_zero] at h1
  have h2 : (2 : Nat) ^ 64 ≤ 2 ^ m := Nat.pow_le_pow_right (by omega) (by omega)
  have e : ((2 ^ m : Nat) : Int) = 2 ^ m := by simp
  unfold num told
  rw [decide_eq_false (by unfold top; omega)]
  rfl
theorem num_end {xs : List Int} {n : Int} (hn : n = val (xs.drop 0)) (h : n < cap 0) : (n, 0) = num xs := by
  rw [List.drop_zero] at hn
  have := cap_le 0
  unfold num told
  rw [decide_eq_true (by unfold top; omega), hn]
  rfl

/-! ### the bits of a number -/
def bitsOf (a : Nat) (k : Nat) : List Int := (List.range k).map fun i => ((a / 2 ^ i % 2 : Nat) : Int)
theorem bitsOf_length (a k : Nat) : (bitsOf a k).length = k := by simp [bitsOf]
theorem bitsOf_succ (a k : Nat) : bitsOf a (k + 1) = bitsOf a k ++ [((a / 2 ^ k % 2 : Nat) : Int)] := by simp [bitsOf, List.range_succ]
theorem bitsOf_isBits (a k : Nat) : IsBits (bitsOf a k) := by
  intro x hx
  simp only [bitsOf, List.mem_map] at hx
  obtain ⟨i, _, rfl⟩ := hx
  omega
theorem bitsOf_getD (a k i : Nat) (h : i < k) : (bitsOf a k).getD i 0 = ((a / 2 ^ i % 2 : Nat) : Int) := by simp [bitsOf, List.getD, h]
theorem val_bitsOf (a k : Nat) : val (bitsOf a k) = ((a % 2 ^ k : Nat) : Int) := by
  induction k with
  | zero => simp [bitsOf, val, Nat.mod_one]
  | succ k ih =>
    rw [bitsOf_succ, val_snoc, ih, bitsOf_length, Nat.mod_pow_succ]
    simp

/-- A row of 'out' while it is filled from the front. -/
theorem take_set_succ (os : List Int) (k : Nat) (x : Int) (h : k < os.length) : (os.set k x).take (k + 1) = os.take k ++ [x] := by
  rw [List.take_succ_eq_append_getElem (by simpa using h)]
  simp [List.take_set_of_le]
theorem take_set_two (os : List Int) (k : Nat) (x y : Int) (h : k + 1 < os.length) : ((os.set k x).set (k + 1) y).take (k + 2) = os.take k ++ [x, y] := by
  rw [take_set_succ _ _ _ (by simpa using h), take_set_succ _ _ _ (by omega)]
  simp

/-- One round of a sum. -/
theorem plus_step (os xs ys : List Int) (k : Nat) (h : k + 1 < os.length) (hv : val (os.take (k + 1)) = val (xs.take k) + val (ys.take k)) (s : Int)
    (hs : s = os.getD k 0 + xs.getD k 0 + ys.getD k 0) (h0 : 0 ≤ s) :
    val (((os.set k (s % 2)).set (k + 1) (s / 2)).take (k + 2)) = val (xs.take (k + 1)) + val (ys.take (k + 1)) := by
  rw [take_set_two _ _ _ _ h, take_succ' xs, take_succ' ys]
  rw [take_succ' os] at hv
  have e : os.take k ++ [s % 2, s / 2] = (os.take k ++ [s % 2]) ++ [s / 2] := by simp
  have hl : (os.take k).length = k := by rw [List.length_take]; omega
  rw [e, val_snoc, val_snoc]
  simp only [List.length_append, List.length_cons, List.length_nil, hl]
  rw [Int.pow_succ, Int.mul_assoc]
  have e2 : s % 2 + 2 * (s / 2) = s := Int.emod_add_mul_ediv s 2
  have e3 : val (List.take k os) + 2 ^ k * (s % 2) + 2 ^ k * (2 * (s / 2)) = val (List.take k os) + 2 ^ k * s := by
    rw [Int.add_assoc, ← Int.mul_add, e2]
  rw [e3, hs, Int.mul_add, Int.mul_add]
  omega
end Go.Proofs.YtmaphdhdfbgflaaGreatDoor.BitsN
