/- The walks of the reference of layer 1 (calliperref01): numbers moved up and down, masks, truth, differences, quotients. -/
import Derived.Test.YthlplfcoaomhpaaWordW
import Derived.Deep.QuietTactic
import Derived.BigQuiet
set_option linter.unusedVariables false
namespace Go.Proofs.Ythlplfcoaomhpaa.Ref1W
open Go.RowKit Go.Proofs.Ythlplfcoaomhpaa.Word Go.Proofs.Ythlplfcoaomhpaa.WordW

def sh (a : Int) (k : Nat) : Int := a * 2 ^ k
theorem sh_succ (a : Int) (k : Nat) : sh a (k + 1) = sh a k + sh a k := by unfold sh; rw [Int.pow_succ, ← Int.mul_assoc]; omega
theorem sh_zero (a : Int) : sh a 0 = a := by simp [sh]
theorem sh_mono (a : Int) (ha : 0 ≤ a) (k m : Nat) (h : k ≤ m) : sh a k ≤ sh a m := by
  induction m with
  | zero => have : k = 0 := by omega
            subst this; exact Int.le_refl _
  | succ m ih =>
    by_cases e : k = m + 1
    · subst e; exact Int.le_refl _
    · have h1 := ih (by omega)
      have h2 : 0 ≤ sh a m := Int.mul_nonneg ha (Int.le_of_lt (pow_pos' _))
      rw [sh_succ]; omega

theorem truth_any (b : Bool) (w : World) : Calls Try.prog 53 #[.bool b] w fun e w' => e = .returned (.int .u64 (truth b)) ∧ w = w' := by
  cases b
  all_goals
    go_enter Try.func53, Try.ntmps53
    go_wp2
    go_ret
    exact ⟨rfl, rfl⟩

theorem shl_end {a n : Int} {k : Nat} (h0 : 0 ≤ n) (hn : n < 64) (hk : ¬ (k : Int) < n) (hk2 : (k : Int) ≤ n) (ht : sh a k ≤ 18446744073709551615) : (sh a k, 0) = shl a n := by
  have e : k = n.toNat := by omega
  subst e
  unfold shl
  have : a * 2 ^ n.toNat ≤ top := ht
  simp [hn, this, told, sh]
theorem shl_out {a n : Int} {k : Nat} (ha : 0 ≤ a) (h0 : 0 ≤ n) (hk : (k : Int) < n) (ht : 9223372036854775807 < sh a k) : (0, 5) = shl a n := by
  have h1 := sh_mono a ha (k + 1) n.toNat (by omega)
  rw [sh_succ] at h1
  unfold shl
  have : ¬ a * 2 ^ n.toNat ≤ top := by unfold top; unfold sh at *; omega
  simp [this, told]

theorem shl_any (a n : Int) (w : World) (ha : U a) (hn : U n) : Calls Try.prog 51 #[.int .u64 a, .int .u64 n] w (ans (shl a n) w) := by
  have h0 := hn.lo
  have a0 := ha.lo
  have a1 := ha.hi
  by_cases h : n < 64
  · go_enter Try.func51, Try.ntmps51
    go_wp2
    go_loop [0, 6] (fun x i => ∃ k : Nat, (k : Int) ≤ n ∧ i = .int .u64 k ∧ x = .int .u64 (sh a k) ∧ 0 ≤ sh a k ∧ sh a k ≤ 18446744073709551615) (fun _ i => n.toNat - (intOf i).toNat)
    case atStart => exact ⟨0, h0, rfl, by rw [sh_zero], by rw [sh_zero]; exact a0, by rw [sh_zero]; exact a1⟩
    case round =>
      obtain ⟨k, hk, rfl, rfl, hlo, hhi⟩ := hrel
      by_cases hlt : (k : Int) < n
      · by_cases hbig : 9223372036854775807 < sh a k
        · go_wp2
          go_ret2
          exact ans_mk (shl_out a0 h0 hlt hbig)
        · go_wp2
          go_round
          case rel => exact ⟨k + 1, by omega, by go_num, by rw [sh_succ], by rw [sh_succ]; omega, by rw [sh_succ]; omega⟩
          case measure => simp [intOf]; omega
      · go_wp2
        go_ret2
        exact ans_mk (shl_end h0 h (by omega) hk hhi)
  · go_enter Try.func51, Try.ntmps51
    go_wp2
    go_ret2
    exact ans_mk (by unfold shl; rw [decide_eq_false (by omega)]; rfl)

def sr (a : Int) (k : Nat) : Int := a / 2 ^ k
theorem sr_succ (a : Int) (k : Nat) : sr a (k + 1) = sr a k / 2 := by
  unfold sr; rw [Int.pow_succ, Int.mul_comm, ← Int.ediv_ediv_of_nonneg (by omega), Int.ediv_ediv_of_nonneg (by omega), Int.mul_comm, Int.ediv_ediv_of_nonneg (Int.le_of_lt (pow_pos' _))]
theorem sr_zero (a : Int) : sr a 0 = a := by simp [sr]
theorem shr_end {a n : Int} {k : Nat} (h0 : 0 ≤ n) (hn : n < 64) (hk : ¬ (k : Int) < n) (hk2 : (k : Int) ≤ n) : (sr a k, 0) = shr a n := by
  have e : k = n.toNat := by omega
  subst e
  unfold shr
  simp [hn, told, sr]

theorem shr_any (a n : Int) (w : World) (ha : U a) (hn : U n) : Calls Try.prog 29 #[.int .u64 a, .int .u64 n] w (ans (shr a n) w) := by
  have h0 := hn.lo
  have a0 := ha.lo
  have a1 := ha.hi
  by_cases h : n < 64
  · go_enter Try.func29, Try.ntmps29
    go_wp2
    go_loop [0, 6] (fun x i => ∃ k : Nat, (k : Int) ≤ n ∧ i = .int .u64 k ∧ x = .int .u64 (sr a k) ∧ 0 ≤ sr a k ∧ sr a k ≤ 18446744073709551615) (fun _ i => n.toNat - (intOf i).toNat)
    case atStart => exact ⟨0, h0, rfl, by rw [sr_zero], by rw [sr_zero]; exact a0, by rw [sr_zero]; exact a1⟩
    case round =>
      obtain ⟨k, hk, rfl, rfl, hlo, hhi⟩ := hrel
      by_cases hlt : (k : Int) < n
      · go_wp2
        go_round
        case rel => exact ⟨k + 1, by omega, by go_num, by rw [sr_succ], by rw [sr_succ]; omega, by rw [sr_succ]; omega⟩
        case measure => simp [intOf]; omega
      · go_wp2
        go_ret2
        exact ans_mk (shr_end h0 h (by omega) hk)
  · go_enter Try.func29, Try.ntmps29
    go_wp2
    go_ret2
    exact ans_mk (by unfold shr; rw [decide_eq_false (by omega)]; rfl)

def ones (k : Nat) : Int := 2 ^ k - 1
theorem ones_succ (k : Nat) : ones (k + 1) = ones k + ones k + 1 := by unfold ones; rw [Int.pow_succ]; omega
theorem ones_bd (k : Nat) (h : k < 64) : 0 ≤ ones k ∧ ones k ≤ 9223372036854775807 := by
  unfold ones
  have h1 := pow_pos' k
  have : (2 : Nat) ^ k ≤ 2 ^ 63 := Nat.pow_le_pow_right (by omega) (by omega)
  have e : ((2 ^ k : Nat) : Int) = 2 ^ k := by simp
  omega
theorem mask_end {n : Int} {k : Nat} (h : ¬ ((k : Int) < n ∧ k < 64)) (h1 : (k : Int) ≤ max n 0) (h2 : k ≤ 64) : ones k = mask n := by
  unfold mask
  by_cases h0 : n ≤ 0
  · have : k = 0 := by omega
    subst this
    rw [if_pos h0]; rfl
  · rw [if_neg h0]
    by_cases h3 : n < 64
    · have : k = n.toNat := by omega
      subst this
      rw [if_pos h3]; rfl
    · have : k = 64 := by omega
      subst this
      rw [if_neg h3]; rfl

theorem mask_any (n : Int) (w : World) : Calls Try.prog 17 #[.int .i64 n] w fun e w' => e = .returned (.int .u64 (mask n)) ∧ w = w' := by
  go_enter Try.func17, Try.ntmps17
  go_wp2
  go_loop [3, 4] (fun x i => ∃ k : Nat, k ≤ 64 ∧ (k : Int) ≤ max n 0 ∧ i = .int .i64 k ∧ x = .int .u64 (ones k)) (fun _ i => 64 - (intOf i).toNat)
  case atStart => exact ⟨0, by omega, by omega, rfl, rfl⟩
  case round =>
    obtain ⟨k, hk, hkn, rfl, rfl⟩ := hrel
    by_cases hlt : (k : Int) < n
    · by_cases hlt2 : (k : Int) < 64
      · obtain ⟨b1, b2⟩ := ones_bd k (by omega)
        go_wp2
        go_round
        case rel => exact ⟨k + 1, by omega, by omega, by go_num, by rw [ones_succ]⟩
        case measure => simp [intOf]; omega
      · go_wp2
        go_ret
        exact ⟨ret_u64 (mask_end (by omega) hkn hk), rfl⟩
    · go_wp2
      go_ret
      exact ⟨ret_u64 (mask_end (by omega) hkn hk), rfl⟩

theorem sub_any (a b : Int) (w : World) (ha : U a) (hb : U b) : Calls Try.prog 48 #[.int .u64 a, .int .u64 b] w (ans (sub a b) w) := by
  have a0 := ha.lo
  have a1 := ha.hi
  have b0 := hb.lo
  have b1 := hb.hi
  by_cases h : a < b
  · go_enter Try.func48, Try.ntmps48
    go_wp2
    go_ret2
    exact ans_mk (by unfold sub; rw [decide_eq_false (by omega)]; rfl)
  · go_enter Try.func48, Try.ntmps48
    go_wp2
    go_ret2
    exact ans_mk (by unfold sub; rw [decide_eq_true (by omega)]; rfl)

/-- The quotient, what is left, the error. -/
theorem div_any (a b : Int) (w : World) (ha : U a) (hb : U b) : Calls Try.prog 50 #[.int .u64 a, .int .u64 b] w fun e w' =>
    e = .returned (.tuple #[.int .u64 (div a b).1, .int .u64 (mod a b).1, .int .i64 (div a b).2]) ∧ Below w.heap.size w w' := by
  have a0 := ha.lo
  have a1 := ha.hi
  have b0 := hb.lo
  have b1 := hb.hi
  by_cases h : b = 0
  · subst h
    go_enter Try.func50, Try.ntmps50
    go_wp2
    go_ret3
    exact ⟨rfl, Below.refl _ _⟩
  · have hb1 : 1 ≤ b := by omega
    have hf : (b == 0) = false := by simp; exact h
    have q1 : 0 ≤ a / b * b := Int.mul_nonneg (Int.ediv_nonneg a0 b0) b0
    have q2 := Int.ediv_mul_le a h
    have q3 : a - a / b * b = a % b := by have := Int.emod_def a b; rw [Int.mul_comm] at this; omega
    have e1 : div a b = (a / b, 0) := by unfold div; rw [if_neg h]
    have e2 : mod a b = (a % b, 0) := by unfold mod; rw [if_neg h]
    rw [e1, e2, ← q3]
    clear e1 e2 q3
    go_enter Try.func50, Try.ntmps50
    go_wp2
    go_quiet (fail)
    go_wp2
    go_ret3
    exact ⟨rfl, below_drewN (Below.refl _ _) _⟩
end Go.Proofs.Ythlplfcoaomhpaa.Ref1W
