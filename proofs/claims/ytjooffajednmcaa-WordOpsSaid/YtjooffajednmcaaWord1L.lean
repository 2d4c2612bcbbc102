/- The walks of the laws of layer 1 that ask no reference's sums: what wakes answers, WordBack, WordTurns, WordMasks, WordShifts. -/
import Derived.Test.YtjooffajednmcaaRef1W
import Derived.OpenShut
set_option linter.unusedVariables false
namespace Go.Proofs.Ytjooffajednmcaa.Word1L
open Go.RowKit Go.Proofs.Ytjooffajednmcaa.Word Go.Proofs.Ytjooffajednmcaa.WordW

theorem U_of_wf {n : Int} (h : (Lit.int .u64 n).wf = true) : U n := bounds_u64 h
theorem U0 : U 0 := ⟨by decide, by decide⟩
theorem lit_U {n : Int} (h : 0 ≤ n ∧ n ≤ 18446744073709551615) : U n := h
def yes (w : World) (e : Ending) (w' : World) : Prop := e = .returned (.bool true) ∧ w = w'

theorem wakes_any (w : World) : Calls Try.prog 12 #[] w (yes w) := by
  have e1 : (sub 3 5).2 = 5 := by decide
  have e2 : (shl 1 63).2 = 0 := by decide
  have e3 : (shl 1 63).1 = 9223372036854775808 := by decide
  have e4 : (shl 2 63).2 = 5 := by decide
  have e5 : (op [38, 38] 2 4).2 = 0 := by decide
  have e6 : (op [38, 38] 2 4).1 = 1 := by decide
  have e7 : mask 3 = 7 := by decide
  go_enter Try.func12, Try.ntmps12
  go_wp2_with fail
  refine (WordW.sub_any _ _ _ (lit_U (by decide)) (lit_U (by decide))).mono ?_
  rintro e w' ⟨rfl, rfl⟩
  go_wp2_with fail
  refine (WordW.shl_any _ _ _ (lit_U (by decide)) (lit_U (by decide))).mono ?_
  rintro e w' ⟨rfl, rfl⟩
  go_wp2_with fail
  refine (WordW.shl_any _ _ _ (lit_U (by decide)) (lit_U (by decide))).mono ?_
  rintro e w' ⟨rfl, rfl⟩
  go_wp2_with fail
  refine (WordW.op_any _ _ _ _ (lit_U (by decide)) (lit_U (by decide))).mono ?_
  rintro e w' ⟨rfl, rfl⟩
  go_wp2_with fail
  refine (WordW.mask_any _ _).mono ?_
  rintro e w' ⟨rfl, rfl⟩
  go_wp2_with fail
  go_ret
  exact ⟨rfl, rfl⟩


theorem and_63 {b : Int} (hb : U b) : bits .and .u64 b 63 = b % 64 := by
  have := bits_and_u64_nat b.toNat 63 (by have := toNat_lt hb; omega) (by omega)
  rw [Int.toNat_of_nonneg hb.lo] at this
  have e : b.toNat &&& 63 = b.toNat % 64 := Nat.and_two_pow_sub_one_eq_mod b.toNat 6
  rw [e] at this
  have h0 := hb.lo
  have h2 : ((b.toNat % 64 : Nat) : Int) = b % 64 := by omega
  rw [← h2]; exact this
theorem and_127 {b : Int} (hb : U b) : bits .and .u64 b 127 = b % 128 := by
  have := bits_and_u64_nat b.toNat 127 (by have := toNat_lt hb; omega) (by omega)
  rw [Int.toNat_of_nonneg hb.lo] at this
  have e : b.toNat &&& 127 = b.toNat % 128 := Nat.and_two_pow_sub_one_eq_mod b.toNat 7
  rw [e] at this
  have h0 := hb.lo
  have h2 : ((b.toNat % 128 : Nat) : Int) = b % 128 := by omega
  rw [← h2]; exact this

/-! ### WordBack -/
theorem add_parts {a b : Int} (ha : U a) (hb : U b) :
    ((add a b).1 = a + b ∧ (add a b).2 = 0 ∧ (sub (a + b) b).1 = a ∧ (sub (a + b) b).2 = 0 ∧ U (a + b)) ∨ ((add a b).2 = 5 ∧ (sub (18446744073709551615 - a) b).2 = 5) := by
  have a0 := ha.lo
  have a1 := ha.hi
  have b0 := hb.lo
  have b1 := hb.hi
  by_cases h : a + b ≤ 18446744073709551615
  · left
    have h' : a + b ≤ top := h
    have h2 : b ≤ a + b := by omega
    unfold add sub
    rw [decide_eq_true h', decide_eq_true h2]
    exact ⟨rfl, rfl, by simp only [told]; simp only [if_true]; omega, rfl, lit_U ⟨by omega, h⟩⟩
  · right
    have h' : ¬ a + b ≤ top := h
    have h2 : ¬ b ≤ 18446744073709551615 - a := by omega
    unfold add sub
    rw [decide_eq_false h', decide_eq_false h2]
    exact ⟨rfl, rfl⟩
theorem shl_parts {a n : Int} (ha : U a) (h : n < 64) :
    ((shl a n).2 = 0 ∧ (shr (shl a n).1 n).1 = a ∧ (shr (shl a n).1 n).2 = 0) ∨ (shl a n).2 = 5 := by
  unfold shl shr
  have hp := pow_pos' n.toNat
  by_cases h2 : a * 2 ^ n.toNat ≤ top
  · left
    simp only [h, h2, decide_true, Bool.true_and, told, if_true]
    exact ⟨trivial, Int.mul_ediv_cancel _ (by omega), trivial⟩
  · right
    simp [h, h2, told]
theorem div_parts {a b : Int} (ha : U a) (hb : U b) (h : b ≠ 0) : (div a b).1 = a / b ∧ (div a b).2 = 0 ∧ (mod a b).1 = a % b ∧ (mod a b).2 = 0 ∧
    (mul (a / b) b).1 = a / b * b ∧ (mul (a / b) b).2 = 0 ∧ (add (a / b * b) (a % b)).1 = a ∧ (add (a / b * b) (a % b)).2 = 0 ∧ (a % b < b) ∧ U (a / b) ∧ U (a % b) ∧ U (a / b * b) := by
  have a0 := ha.lo
  have a1 := ha.hi
  have b0 := hb.lo
  have b1 := hb.hi
  have q0 : 0 ≤ a / b := Int.ediv_nonneg a0 b0
  have q1 : 0 ≤ a / b * b := Int.mul_nonneg q0 b0
  have q2 := Int.ediv_mul_le a h
  have q3 : a / b * b + a % b = a := by have := Int.emod_def a b; rw [Int.mul_comm] at this; omega
  have q4 : 0 ≤ a % b := Int.emod_nonneg _ h
  have q5 : a % b < b := Int.emod_lt_of_pos _ (by omega)
  have q6 : a / b ≤ a := Int.ediv_le_self _ a0
  have k1 : a / b * b ≤ top := by unfold top; omega
  have k2 : a / b * b + a % b ≤ top := by unfold top; omega
  unfold div mod mul add
  rw [if_neg h, if_neg h, decide_eq_true k1, decide_eq_true k2]
  refine ⟨rfl, rfl, rfl, rfl, rfl, rfl, ?_, rfl, q5, ⟨q0, by unfold top; omega⟩, ⟨q4, by unfold top; omega⟩, ⟨q1, k1⟩⟩
  simp only [told]; simp only [if_true]; exact q3

set_option maxHeartbeats 1000000 in
theorem back_any (a b : Int) (w : World) (ha : U a) (hb : U b) : Calls Try.prog 6 #[.int .u64 a, .int .u64 b] w (yes w) := by
  have a0 := ha.lo
  have a1 := ha.hi
  have b0 := hb.lo
  have b1 := hb.hi
  have Um : U (b % 64) := lit_U ⟨by omega, by omega⟩
  have Ut : U (18446744073709551615 - a) := lit_U ⟨by omega, by omega⟩
  have Us := shl_U (n := b % 64) ha
  have k63 := and_63 hb
  have HB := Lib.hid (shl_parts (n := b % 64) ha (by omega))
  have HC := Lib.hid (div_parts ha hb)
  have HD : Hid (b = 0 → (div a b).2 = 6 ∧ (mod a b).2 = 6) := Lib.hid (fun h => by subst h; exact ⟨rfl, rfl⟩)
  rcases add_parts ha hb with ⟨p1, p2, p3, p4, p5⟩ | ⟨p1, p2⟩
  all_goals
    rcases HB.out with ⟨s1, s2, s3⟩ | s1
  all_goals
    clear HB
    by_cases hb0 : b = 0
  all_goals
    first
    | (obtain ⟨d1, d2⟩ := HD.out hb0; have hbf : (b == 0) = true := beq_iff_eq.2 hb0)
    | (obtain ⟨d1, d2, d3, d4, d5, d6, d7, d8, d9, d10, d11, d12⟩ := HC.out hb0; have hbf : (b == 0) = false := beq_eq_false_iff_ne.2 hb0)
  all_goals
    clear HC HD hb0
    go_enter Try.func6, Try.ntmps6
    go_wp2_with (first
      | (go_at_call 11; refine (WordW.add_any _ _ _ (by assumption) (by assumption)).mono ?_; rintro e w' ⟨rfl, rfl⟩)
      | (go_at_call 17; refine (WordW.sub_any _ _ _ (by assumption) (by assumption)).mono ?_; rintro e w' ⟨rfl, rfl⟩)
      | (go_at_call 13; refine (WordW.shl_any _ _ _ (by assumption) (by assumption)).mono ?_; rintro e w' ⟨rfl, rfl⟩)
      | (go_at_call 15; refine (WordW.shr_any _ _ _ (by assumption) (by assumption)).mono ?_; rintro e w' ⟨rfl, rfl⟩)
      | (go_at_call 18; refine (WordW.div_any _ _ _ (by assumption) (by assumption)).mono ?_; rintro e w' ⟨rfl, rfl⟩)
      | (go_at_call 19; refine (WordW.mod_any _ _ _ (by assumption) (by assumption)).mono ?_; rintro e w' ⟨rfl, rfl⟩)
      | (go_at_call 20; refine (WordW.mul_any _ _ _ (by assumption) (by assumption)).mono ?_; rintro e w' ⟨rfl, rfl⟩)
      | (go_at_call 12; refine (wakes_any _).mono ?_; rintro e w' ⟨rfl, rfl⟩))
    go_ret
    exact ⟨rfl, rfl⟩
/-! ### WordTurns -/
theorem add_comm' (a b : Int) : add a b = add b a := by unfold add; rw [Int.add_comm]
theorem mul_comm' (a b : Int) : mul a b = mul b a := by unfold mul; rw [Int.mul_comm]
theorem band_comm (a b : Int) : band a b = band b a := by unfold band; rw [Nat.and_comm]
theorem bor_comm (a b : Int) : bor a b = bor b a := by unfold bor; rw [Nat.or_comm]
theorem beq_comm' (a b : Int) : (a == b) = (b == a) := by rw [Bool.eq_iff_iff]; simp; exact eq_comm
theorem bne_comm' (a b : Int) : (a != b) = (b != a) := by unfold bne; rw [beq_comm']
theorem turn_ops (a b : Int) (k : Nat) (h : k < 8) : ∃ s : ByteArray, [Value.string { data := #[43] }, Value.string { data := #[42] }, Value.string { data := #[38] }, Value.string { data := #[124] }, Value.string { data := #[61, 61] }, Value.string { data := #[33, 61] },
        Value.string { data := #[38, 38] }, Value.string { data := #[124, 124] }][k]'h = .string s ∧ op s.toList b a = op s.toList a b := by
  match k, h with
  | 0, _ => exact ⟨_, rfl, by rw [ByteArray.toList_mk]; exact add_comm' _ _⟩
  | 1, _ => exact ⟨_, rfl, by rw [ByteArray.toList_mk]; exact mul_comm' _ _⟩
  | 2, _ => exact ⟨_, rfl, by rw [ByteArray.toList_mk]; exact congrArg (·, 0) (band_comm _ _)⟩
  | 3, _ => exact ⟨_, rfl, by rw [ByteArray.toList_mk]; exact congrArg (·, 0) (bor_comm _ _)⟩
  | 4, _ => exact ⟨_, rfl, by rw [ByteArray.toList_mk]; exact congrArg (fun x => (truth x, 0)) (beq_comm' _ _)⟩
  | 5, _ => exact ⟨_, rfl, by rw [ByteArray.toList_mk]; exact congrArg (fun x => (truth x, 0)) (bne_comm' _ _)⟩
  | 6, _ => exact ⟨_, rfl, by rw [ByteArray.toList_mk]; exact congrArg (fun x => (truth x, 0)) (Bool.and_comm _ _)⟩
  | 7, _ => exact ⟨_, rfl, by rw [ByteArray.toList_mk]; exact congrArg (fun x => (truth x, 0)) (Bool.or_comm _ _)⟩
theorem turn_eq (a b : Int) : (op [61, 61] a b).2 = 0 ∧ (op [33, 61] a b).2 = 0 ∧ (op [61, 61] a b).1 + (op [33, 61] a b).1 = 1 := by
  refine ⟨rfl, rfl, ?_⟩
  show truth (a == b) + truth (a != b) = 1
  unfold bne
  cases a == b <;> rfl
theorem turn_lt (a b : Int) : (op [60] a b).2 = 0 ∧ (op [62, 61] a b).2 = 0 ∧ (op [60] a b).1 + (op [62, 61] a b).1 = 1 := by
  refine ⟨rfl, rfl, ?_⟩
  show truth (decide (a < b)) + truth (decide (b ≤ a)) = 1
  by_cases h : a < b
  · rw [decide_eq_true h, decide_eq_false (by omega)]; rfl
  · rw [decide_eq_false h, decide_eq_true (by omega)]; rfl
theorem turn_gt (a b : Int) : (op [62] a b).2 = 0 ∧ (op [60, 61] a b).2 = 0 ∧ (op [62] a b).1 + (op [60, 61] a b).1 = 1 := by
  refine ⟨rfl, rfl, ?_⟩
  show truth (decide (b < a)) + truth (decide (a ≤ b)) = 1
  by_cases h : b < a
  · rw [decide_eq_true h, decide_eq_false (by omega)]; rfl
  · rw [decide_eq_false h, decide_eq_true (by omega)]; rfl

def Yes (w : World) (e : Ending) (w' : World) : Prop := e = .returned (.bool true) ∧ Below w.heap.size w w'

set_option maxHeartbeats 1000000 in
theorem turns_any (a b : Int) (w : World) (ha : U a) (hb : U b) : Calls Try.prog 7 #[.int .u64 a, .int .u64 b] w (Yes w) := by
  go_enter Try.func7, Try.ntmps7
  go_wp2_with fail
  go_loop [19] (fun i => ∃ k : Nat, k ≤ 8 ∧ i = .int .i64 k) (fun i => 8 - (intOf i).toNat)
  case atStart => exact ⟨0, by omega, rfl⟩
  case round =>
    obtain ⟨k, hk, rfl⟩ := hrel
    by_cases hlt : k < 8
    · obtain ⟨s, hs, hp⟩ := turn_ops a b k hlt
      go_wp2_with (go_at_call 9; refine (WordW.op_any _ _ _ _ (by assumption) (by assumption)).mono ?_; rintro e w' ⟨rfl, rfl⟩)
      go_round
      case rel => exact ⟨k + 1, by omega, by go_num⟩
      case measure => simp [intOf]; omega
    · have : k = 8 := by omega
      subst this
      go_wp2_with fail
      go_loopw [51] (fun i wr => ∃ k : Nat, k ≤ 3 ∧ i = .int .i64 k ∧ Below w.heap.size w wr ∧ wr.cell? ⟨w.heap.size + 1, 0, none⟩ = some (.string ⟨#[61, 61]⟩) ∧ wr.cell? ⟨w.heap.size + 1, 1, none⟩ = some (.string ⟨#[33, 61]⟩)
        ∧ wr.cell? ⟨w.heap.size + 1, 2, none⟩ = some (.string ⟨#[60]⟩) ∧ wr.cell? ⟨w.heap.size + 1, 3, none⟩ = some (.string ⟨#[62, 61]⟩) ∧ wr.cell? ⟨w.heap.size + 1, 4, none⟩ = some (.string ⟨#[62]⟩) ∧ wr.cell? ⟨w.heap.size + 1, 5, none⟩ = some (.string ⟨#[60, 61]⟩)) (fun i _ => 3 - (intOf i).toNat)
      case atStart => exact ⟨0, by omega, rfl, ((Below.refl _ _).alloc (Nat.le_refl _) _).alloc (by simp) _, by simp, by simp, by simp, by simp, by simp, by simp⟩
      case round =>
        obtain ⟨k, hk, rfl, hbel, c0, c1, c2, c3, c4, c5⟩ := hrel
        obtain ⟨e1, e2, e3⟩ := turn_eq a b
        obtain ⟨l1, l2, l3⟩ := turn_lt a b
        obtain ⟨g1, g2, g3⟩ := turn_gt a b
        have kept : ∀ (o : Obj) (j : Nat) (v : Value), wr.cell? ⟨w.heap.size + 1, j, none⟩ = some v → (wr.alloc o).cell? ⟨w.heap.size + 1, j, none⟩ = some v := fun o j v h => cell_later ((Below.refl _ _).alloc (Nat.le_refl _) _) h
        have hk0 := Lib.hid kept
        clear kept
        by_cases h0 : k < 3
        · have hks : k = 0 ∨ k = 1 ∨ k = 2 := by omega
          have hsz := hbel.size
          rcases hks with rfl | rfl | rfl
          all_goals
            go_wp2_with (go_at_call 9; refine (WordW.op_any _ _ _ _ ha hb).mono ?_; rintro e w' ⟨rfl, rfl⟩)
            go_roundw
            case rel =>
              first
              | exact ⟨1, by omega, rfl, (hbel.alloc hsz _), hk0.out _ _ _ c0, hk0.out _ _ _ c1, hk0.out _ _ _ c2, hk0.out _ _ _ c3, hk0.out _ _ _ c4, hk0.out _ _ _ c5⟩
              | exact ⟨2, by omega, rfl, (hbel.alloc hsz _), hk0.out _ _ _ c0, hk0.out _ _ _ c1, hk0.out _ _ _ c2, hk0.out _ _ _ c3, hk0.out _ _ _ c4, hk0.out _ _ _ c5⟩
              | exact ⟨3, by omega, rfl, (hbel.alloc hsz _), hk0.out _ _ _ c0, hk0.out _ _ _ c1, hk0.out _ _ _ c2, hk0.out _ _ _ c3, hk0.out _ _ _ c4, hk0.out _ _ _ c5⟩
            case measure => simp [intOf]
        · have : k = 3 := by omega
          subst this
          go_wp2_with (go_at_call 12; refine (wakes_any _).mono ?_; rintro e w' ⟨rfl, rfl⟩)
          go_ret
          exact ⟨rfl, hbel⟩
end Go.Proofs.Ytjooffajednmcaa.Word1L
