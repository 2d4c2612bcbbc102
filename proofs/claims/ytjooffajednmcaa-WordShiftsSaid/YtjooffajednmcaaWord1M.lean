/- The walks of the laws WordMasks and WordShifts of layer 1. -/
import Derived.Test.YtjooffajednmcaaWord1L
set_option linter.unusedVariables false
namespace Go.Proofs.Ytjooffajednmcaa.Word1M
open Go.RowKit Go.Proofs.Ytjooffajednmcaa.Word Go.Proofs.Ytjooffajednmcaa.WordW Go.Proofs.Ytjooffajednmcaa.Word1L

theorem and_1 {b : Int} (hb : U b) : bits .and .u64 b 1 = b % 2 := by
  have := bits_and_u64_nat b.toNat 1 (by have := toNat_lt hb; omega) (by omega)
  rw [Int.toNat_of_nonneg hb.lo] at this
  have e : b.toNat &&& 1 = b.toNat % 2 := Nat.and_two_pow_sub_one_eq_mod b.toNat 1
  rw [e] at this
  have h0 := hb.lo
  have h2 : ((b.toNat % 2 : Nat) : Int) = b % 2 := by omega
  rw [← h2]; exact this
theorem truth_low (b : Int) (h : 0 ≤ b) : truth (b % 2 == 1) = b % 2 := by
  have : b % 2 = 0 ∨ b % 2 = 1 := by omega
  rcases this with e | e <;> rw [e] <;> rfl
theorem two_ints (x y : Int) (k : Nat) (h : k < 2) : ∃ z : Int, [Value.int .i64 x, Value.int .i64 y][k]'h = .int .i64 z := by
  match k, h with
  | 0, _ => exact ⟨_, rfl⟩
  | 1, _ => exact ⟨_, rfl⟩

set_option maxHeartbeats 400000 in
theorem masks_any (a n : Int) (w : World) (ha : U a) : Calls Try.prog 8 #[.int .u64 a, .int .i64 n] w (Yes w) := by
  have k1 := and_1 ha
  have k2 := truth_low a ha.lo
  go_enter Try.func8, Try.ntmps8
  go_wp2_with fail
  generalize bits BinOp.and IntKind.i64 n 127 = y
  go_loop [13] (fun i => ∃ k : Nat, k ≤ 2 ∧ i = .int .i64 k) (fun i => 2 - (intOf i).toNat)
  case atStart => exact ⟨0, by omega, rfl⟩
  case round =>
    obtain ⟨k, hk, rfl⟩ := hrel
    by_cases hlt : k < 2
    · obtain ⟨z, hz⟩ := two_ints n y k hlt
      go_wp2_with (first
        | (go_at_call 21; refine (Ref1W.mask_any _ _).mono ?_; rintro e w' ⟨rfl, rfl⟩)
        | (go_at_call 22; refine (WordW.mask_any _ _).mono ?_; rintro e w' ⟨rfl, rfl⟩)
        | (go_at_call 23; refine (WordW.fits_any _ _ _).mono ?_; rintro e w' ⟨rfl, rfl⟩))
      go_round
      case rel => exact ⟨k + 1, by omega, by go_num⟩
      case measure => simp [intOf]; omega
    · have : k = 2 := by omega
      subst this
      go_wp2_with (first
        | (go_at_call 12; refine (wakes_any _).mono ?_; rintro e w' ⟨rfl, rfl⟩)
        | (go_at_call 24; refine (WordW.truth_any _ _).mono ?_; rintro e w' ⟨rfl, rfl⟩))
      go_ret
      exact ⟨rfl, (Below.refl _ _).alloc (Nat.le_refl _) _⟩

theorem three_nums (x y z : Int) (hx : U x) (hy : U y) (hz : U z) (k : Nat) (h : k < 3) : ∃ n : Int, [Value.int .u64 x, Value.int .u64 y, Value.int .u64 z][k]'h = .int .u64 n ∧ U n := by
  match k, h with
  | 0, _ => exact ⟨_, rfl, hx⟩
  | 1, _ => exact ⟨_, rfl, hy⟩
  | 2, _ => exact ⟨_, rfl, hz⟩

set_option maxHeartbeats 400000 in
theorem shifts_any (a n : Int) (w : World) (ha : U a) (hn : U n) : Calls Try.prog 4 #[.int .u64 a, .int .u64 n] w (Yes w) := by
  have k1 := and_63 hn
  have k2 := and_127 hn
  have u1 : U (n % 64) := lit_U ⟨by omega, by omega⟩
  have u2 : U (n % 128) := lit_U ⟨by omega, by omega⟩
  have T := Lib.hid (three_nums n (n % 64) (n % 128) hn u1 u2)
  go_enter Try.func4, Try.ntmps4
  go_wp2_with fail
  go_loop [22] (fun i => ∃ k : Nat, k ≤ 3 ∧ i = .int .i64 k) (fun i => 3 - (intOf i).toNat)
  case atStart => exact ⟨0, by omega, rfl⟩
  case round =>
    obtain ⟨k, hk, rfl⟩ := hrel
    by_cases hlt : k < 3
    · obtain ⟨z, hz, uz⟩ := T.out k hlt
      go_wp2_with (first
        | (go_at_call 14; refine (Ref1W.shl_any _ _ _ (by assumption) (by assumption)).mono ?_; rintro e w' ⟨rfl, rfl⟩)
        | (go_at_call 16; refine (Ref1W.shr_any _ _ _ (by assumption) (by assumption)).mono ?_; rintro e w' ⟨rfl, rfl⟩)
        | (go_at_call 13; refine (WordW.shl_any _ _ _ (by assumption) (by assumption)).mono ?_; rintro e w' ⟨rfl, rfl⟩)
        | (go_at_call 15; refine (WordW.shr_any _ _ _ (by assumption) (by assumption)).mono ?_; rintro e w' ⟨rfl, rfl⟩))
      go_round
      case rel => exact ⟨k + 1, by omega, by go_num⟩
      case measure => simp [intOf]; omega
    · have : k = 3 := by omega
      subst this
      go_wp2_with (go_at_call 12; refine (wakes_any _).mono ?_; rintro e w' ⟨rfl, rfl⟩)
      go_ret
      exact ⟨rfl, (Below.refl _ _).alloc (Nat.le_refl _) _⟩
end Go.Proofs.Ytjooffajednmcaa.Word1M
