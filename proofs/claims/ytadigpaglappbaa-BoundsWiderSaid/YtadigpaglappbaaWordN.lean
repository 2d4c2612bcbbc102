/- The plain answers of layer 1 (word): what each operator on numbers of 64 bits comes to, in plain Lean. -/
set_option linter.unusedVariables false
namespace Go.Proofs.Ytadigpaglappbaa.Word

/-- The greatest number. -/
def top : Int := 18446744073709551615
def U (a : Int) : Prop := 0 ≤ a ∧ a ≤ top
theorem U.lo {a : Int} (h : U a) : 0 ≤ a := h.1
theorem U.hi {a : Int} (h : U a) : a ≤ 18446744073709551615 := h.2
theorem U.mk {a : Int} (h : 0 ≤ a ∧ a ≤ 18446744073709551615) : U a := h

def told (n : Int) (b : Bool) : Int × Int := if b then (n, 0) else (0, 5)
def add (a b : Int) : Int × Int := told (a + b) (decide (a + b ≤ top))
def sub (a b : Int) : Int × Int := told (a - b) (decide (b ≤ a))
def mul (a b : Int) : Int × Int := told (a * b) (decide (a * b ≤ top))
def div (a b : Int) : Int × Int := if b = 0 then (0, 6) else (a / b, 0)
def mod (a b : Int) : Int × Int := if b = 0 then (0, 6) else (a % b, 0)
def shl (a n : Int) : Int × Int := told (a * 2 ^ n.toNat) (decide (n < 64) && decide (a * 2 ^ n.toNat ≤ top))
def shr (a n : Int) : Int × Int := told (a / 2 ^ n.toNat) (decide (n < 64))
def mask (n : Int) : Int := if n ≤ 0 then 0 else if n < 64 then 2 ^ n.toNat - 1 else top
def truth (b : Bool) : Int := if b then 1 else 0
def band (a b : Int) : Int := ((a.toNat &&& b.toNat : Nat) : Int)
def bor (a b : Int) : Int := ((a.toNat ||| b.toNat : Nat) : Int)

/-- What a comparison tells; 'false': it is none. -/
def cmp (s : List UInt8) (a b : Int) : Int × Bool :=
  if s == [61, 61] then (truth (a == b), true) else
  if s == [33, 61] then (truth (a != b), true) else
  if s == [60] then (truth (decide (a < b)), true) else
  if s == [60, 61] then (truth (decide (a ≤ b)), true) else
  if s == [62] then (truth (decide (b < a)), true) else
  if s == [62, 61] then (truth (decide (b ≤ a)), true) else
  if s == [38, 38] then (truth (a != 0 && b != 0), true) else
  if s == [124, 124] then (truth (a != 0 || b != 0), true) else (0, false)

def op (s : List UInt8) (a b : Int) : Int × Int :=
  if s == [43] then add a b else
  if s == [45] then sub a b else
  if s == [42] then mul a b else
  if s == [47] then div a b else
  if s == [37] then mod a b else
  if s == [60, 60] then shl a b else
  if s == [62, 62] then shr a b else
  if s == [38] then (band a b, 0) else
  if s == [124] then (bor a b, 0) else
  if (cmp s a b).2 then ((cmp s a b).1, 0) else (0, 4)

theorem told_U {n : Int} {b : Bool} (h0 : 0 ≤ n) (h : b = true → n ≤ top) : U (told n b).1 := by
  cases b
  · exact ⟨by simp [told], by simp [told, top]⟩
  · exact ⟨h0, h rfl⟩
theorem pow_pos' (n : Nat) : (0 : Int) < 2 ^ n := Int.pow_pos (by omega)
theorem div_pow_le (a : Int) (n : Nat) (h : 0 ≤ a) : 0 ≤ a / 2 ^ n ∧ a / 2 ^ n ≤ a :=
  ⟨Int.ediv_nonneg h (Int.le_of_lt (pow_pos' n)), Int.ediv_le_self _ h⟩
theorem pow_le (n : Nat) (h : n ≤ 64) : (2 : Int) ^ n ≤ 18446744073709551616 := by
  have : (2 : Nat) ^ n ≤ 2 ^ 64 := Nat.pow_le_pow_right (by omega) h
  have e : ((2 ^ n : Nat) : Int) = 2 ^ n := by simp
  omega
theorem truth_U (b : Bool) : U (truth b) := by cases b <;> exact ⟨by simp [truth], by simp [truth, top]⟩
theorem add_U {a b : Int} (ha : U a) (hb : U b) : U (add a b).1 := told_U (by have := ha.1; have := hb.1; omega) (fun h => of_decide_eq_true h)
theorem sub_U {a b : Int} (ha : U a) (hb : U b) : U (sub a b).1 := by
  by_cases h : b ≤ a
  · simp only [sub, h, decide_true, told, if_true]; exact ⟨by omega, by have := ha.2; have := hb.1; omega⟩
  · simp only [sub, h, decide_false, told]; exact ⟨by simp, by simp [top]⟩
theorem mul_U {a b : Int} (ha : U a) (hb : U b) : U (mul a b).1 := told_U (Int.mul_nonneg ha.1 hb.1) (fun h => of_decide_eq_true h)
theorem div_U {a b : Int} (ha : U a) (hb : U b) : U (div a b).1 := by
  unfold div
  split
  · exact ⟨by simp, by simp [top]⟩
  · exact ⟨Int.ediv_nonneg ha.1 hb.1, Int.le_trans (Int.ediv_le_self _ ha.1) ha.2⟩
theorem mod_U {a b : Int} (ha : U a) (hb : U b) : U (mod a b).1 := by
  unfold mod
  split
  · exact ⟨by simp, by simp [top]⟩
  · rename_i h
    refine ⟨Int.emod_nonneg _ h, ?_⟩
    have := Int.emod_lt_of_pos a (b := b) (by have := hb.1; omega)
    have := hb.2
    show a % b ≤ top
    omega
theorem shl_U {a n : Int} (ha : U a) : U (shl a n).1 := told_U (Int.mul_nonneg ha.1 (Int.le_of_lt (pow_pos' _))) (fun h => by simp at h; exact h.2)
theorem shr_U {a n : Int} (ha : U a) : U (shr a n).1 := told_U (div_pow_le a _ ha.1).1 (fun _ => Int.le_trans (div_pow_le a _ ha.1).2 ha.2)
theorem mask_U (n : Int) : U (mask n) := by
  unfold mask
  split
  · exact ⟨by simp, by simp [top]⟩
  · split
    · have h1 := pow_le n.toNat (by omega)
      have h2 := pow_pos' n.toNat
      exact ⟨by omega, by unfold top; omega⟩
    · exact ⟨by simp [top], by simp [top]⟩
theorem toNat_lt {a : Int} (h : U a) : a.toNat < 2 ^ 64 := by have := h.hi; have := h.lo; omega
theorem band_U {a b : Int} (ha : U a) : U (band a b) := by
  have h := Nat.and_le_left (n := a.toNat) (m := b.toNat)
  have := ha.hi
  have := ha.lo
  exact ⟨by unfold band; omega, by unfold band top; omega⟩
theorem bor_U {a b : Int} (ha : U a) (hb : U b) : U (bor a b) := by
  have h := Nat.or_lt_two_pow (toNat_lt ha) (toNat_lt hb)
  exact ⟨by unfold bor; omega, by unfold bor top; omega⟩
theorem cmp_U (s : List UInt8) (a b : Int) : U (cmp s a b).1 := by
  unfold cmp
  repeat' (split; exact truth_U _)
  exact ⟨by simp, by simp [top]⟩
theorem op_U (s : List UInt8) {a b : Int} (ha : U a) (hb : U b) : U (op s a b).1 := by
  unfold op
  split; exact add_U ha hb
  split; exact sub_U ha hb
  split; exact mul_U ha hb
  split; exact div_U ha hb
  split; exact mod_U ha hb
  split; exact shl_U ha
  split; exact shr_U ha
  split; exact band_U ha
  split; exact bor_U ha hb
  split; exact cmp_U s a b
  exact ⟨by simp, by simp [top]⟩
end Go.Proofs.Ytadigpaglappbaa.Word
