/- The walks of the reference of layer 1: Add, Mul, both. -/
import Derived.Test.YthlplfcoaomhpaaBitsW
import Derived.Deep.QuietTactic
import Derived.BigQuiet
set_option linter.unusedVariables false
namespace Go.Proofs.Ythlplfcoaomhpaa.MulW
open Go.RowKit Go.Proofs.Ythlplfcoaomhpaa.Word Go.Proofs.Ythlplfcoaomhpaa.WordW Go.Proofs.Ythlplfcoaomhpaa.BitsN Go.Proofs.Ythlplfcoaomhpaa.BitsW

/-- A number and its error; nothing that was there has turned. -/
def Ans (p : Int × Int) (w : World) (e : Ending) (w' : World) : Prop := e = .returned (.tuple #[.int .u64 p.1, .int .i64 p.2]) ∧ Below w.heap.size w w'
theorem Ans_mk {p : Int × Int} {x y : Int} {w w' : World} (h : (x, y) = p) (hb : Below w.heap.size w w') : Ans p w (.returned (.tuple #[.int .u64 x, .int .i64 y])) w' := by subst h; exact ⟨rfl, hb⟩
theorem Ans_of {p : Int × Int} {w w' : World} {e : Ending} (h : ans p w e w') : Ans p w e w' := by obtain ⟨rfl, rfl⟩ := h; exact ⟨rfl, Below.refl _ _⟩

theorem val_bits64 {a : Nat} (ha : a < 18446744073709551616) : val (bitsOf a 64) = a := by
  rw [val_bitsOf, Nat.mod_eq_of_lt (by omega)]

theorem num_add {zs : List Int} {a b : Nat} (h : val zs = a + b) : num zs = add a b := by unfold num add; rw [h]

theorem add_any (a b : Int) (w : World) (ha : U a) (hb : U b) : Calls Try.prog 47 #[.int .u64 a, .int .u64 b] w (Ans (add a b) w) := by
  go_enter Try.func47, Try.ntmps47
  go_wp2_with fail
  refine (bits_any a _ ha).mono ?_
  rintro e w1 ⟨g, rfl, cx, hg1, hg2, hb1⟩
  have CX := Lib.hid cx
  clear cx
  go_wp2_with fail
  refine (bits_any b _ hb).mono ?_
  rintro e w2 ⟨h, rfl, cy, hh1, hh2, hb2⟩
  have cx2 := CX.out.later hb2 hg2
  have CY := Lib.hid cy
  have CX2 := Lib.hid cx2
  clear cy cx2
  go_wp2_with fail
  have hp := plus_any (bitsOf a.toNat 64) (bitsOf b.toNat 64) g h 64 64 w2 (bitsOf_isBits _ _) (bitsOf_isBits _ _) (by rw [bitsOf_length]; omega) (by rw [bitsOf_length]; omega) CX2.out CY.out (Nat.lt_of_lt_of_le hg2 hb2.size) hh2
  rw [bitsOf_length, bitsOf_length] at hp
  refine hp.mono ?_
  clear hp
  rintro e w3 ⟨k, zs, rfl, cz, bz, hz, lz, hk1, hk2, hb3⟩
  rw [bitsOf_length, bitsOf_length] at lz
  obtain ⟨a, rfl⟩ := Int.eq_ofNat_of_zero_le ha.lo
  obtain ⟨b, rfl⟩ := Int.eq_ofNat_of_zero_le hb.lo
  simp only [Int.toNat_natCast] at hz
  rw [val_bits64 (by have := ha.hi; omega), val_bits64 (by have := hb.hi; omega)] at hz
  have HN := Lib.hid (num_add hz)
  have HB := Lib.hid (hb1.trans ((hb2.mono (B' := w.heap.size) (by omega)).trans (hb3.mono (B' := w.heap.size) (by have := hb1.size; have := hb2.size; omega))))
  have lz2 : zs.length ≤ 1000000 := by omega
  have CZ := Lib.hid cz
  have HM := fun w c => number_any zs k c w bz lz2
  clear hz lz cz hb1 hb2 hb3
  have HM := Lib.hid HM
  go_wp2_with fail
  refine (HM.out _ _ CZ.out).mono ?_
  rintro e w' ⟨rfl, rfl⟩
  rw [HN.out]
  go_wp2_with fail
  go_ret2
  exact Ans_mk rfl HB.out

/-! ### both -/
def mix (a b : Nat) (e : Bool) : Nat := if e then a ||| b else a &&& b
def mixB (x y : Int) (e : Bool) : Bool := (x + y == 2) || (e && (x + y == 1))
theorem mix_bit (a b i : Nat) (e : Bool) : ((mix a b e / 2 ^ i % 2 : Nat) : Int) = if mixB ((a / 2 ^ i % 2 : Nat) : Int) ((b / 2 ^ i % 2 : Nat) : Int) e then 1 else 0 := by
  have ta : ∀ x : Nat, x / 2 ^ i % 2 = (x.testBit i).toNat := fun x => (Nat.toNat_testBit x i).symm
  rw [ta, ta, ta]
  cases e
  · simp only [mix, mixB, Bool.false_eq_true, if_false, Nat.testBit_and]
    cases a.testBit i <;> cases b.testBit i <;> rfl
  · simp only [mix, mixB, if_true, Nat.testBit_or]
    cases a.testBit i <;> cases b.testBit i <;> rfl
theorem mix_step (a b i : Nat) (e : Bool) : mix a b e / 2 ^ i = 2 * (mix a b e / 2 ^ (i + 1)) + mix a b e / 2 ^ i % 2 := by
  rw [Nat.pow_succ, ← Nat.div_div_eq_div_mul]; omega
theorem mix_lt {a b : Nat} (ha : a < 18446744073709551616) (hb : b < 18446744073709551616) (e : Bool) : mix a b e < 18446744073709551616 := by
  cases e
  · have := Nat.and_le_left (n := a) (m := b); simp only [mix, Bool.false_eq_true, if_false]; omega
  · exact Nat.or_lt_two_pow (n := 64) (by omega) (by omega)

set_option maxRecDepth 100000 in
set_option maxHeartbeats 1000000 in
theorem both_any (a b : Int) (e : Bool) (w : World) (ha : U a) (hb : U b) : Calls Try.prog 52 #[.int .u64 a, .int .u64 b, .bool e] w fun r w' =>
    r = .returned (.int .u64 ((mix a.toNat b.toNat e : Nat) : Int)) ∧ Below w.heap.size w w' := by
  go_enter Try.func52, Try.ntmps52
  go_wp2_with fail
  refine (bits_any a _ ha).mono ?_
  rintro e1 w1 ⟨g, rfl, cx, hg1, hg2, hb1⟩
  have CX := Lib.hid cx
  clear cx
  go_wp2_with fail
  refine (bits_any b _ hb).mono ?_
  rintro e2 w2 ⟨h, rfl, cy, hh1, hh2, hb2⟩
  have cx2 := CX.out.later hb2 hg2
  have CY := Lib.hid cy
  have CX2 := Lib.hid cx2
  have HB := Lib.hid (hb1.trans (hb2.mono (B' := w.heap.size) (by omega)))
  have hg3 : g < w2.heap.size := Nat.lt_of_lt_of_le hg2 hb2.size
  clear cy cx2 CX hb1 hb2
  have hlt := mix_lt (a := a.toNat) (b := b.toNat) (by have := toNat_lt ha; omega) (by have := toNat_lt hb; omega) e
  have HZ : Hid (mix a.toNat b.toNat e / 2 ^ 64 = 0) := Nat.div_eq_of_lt (by omega)
  go_wp2
  go_loopw [9, 10] (fun n i wr => ∃ (j : Nat), j ≤ 64 ∧ i = .int .i64 ((j : Int) - 1) ∧ n = .int .u64 ((mix a.toNat b.toNat e / 2 ^ j : Nat) : Int) ∧ Below w2.heap.size w2 wr) (fun _ i _ => (intOf i + 1).toNat)
  case atStart => exact ⟨64, by omega, rfl, by rw [HZ.out]; rfl, Below.refl _ _⟩
  case round =>
    obtain ⟨j, hj, rfl, rfl, hbel⟩ := hrel
    by_cases h0 : j = 0
    · subst h0
      go_wp2
      go_ret
      exact ⟨by simp, HB.out.trans (hbel.mono (by have := HB.out.size; omega))⟩
    · obtain ⟨m, rfl⟩ : ∃ m, j = m + 1 := ⟨j - 1, by omega⟩
      rw [show (((m + 1 : Nat) : Int) - 1) = (m : Int) by omega]
      have cx : wr.cell? ⟨g, m, none⟩ = some (.int .i64 ((a.toNat / 2 ^ m % 2 : Nat) : Int)) := by
        rw [hbel.cell (by exact hg3), CX2.out m (by rw [bitsOf_length]; omega), bitsOf_getD _ _ _ (by omega)]
      have cy : wr.cell? ⟨h, m, none⟩ = some (.int .i64 ((b.toNat / 2 ^ m % 2 : Nat) : Int)) := by
        rw [hbel.cell (by exact hh2), CY.out m (by rw [bitsOf_length]; omega), bitsOf_getD _ _ _ (by omega)]
      have hbit := mix_bit a.toNat b.toNat m e
      have hst := mix_step a.toNat b.toNat m e
      have hle : mix a.toNat b.toNat e / 2 ^ m ≤ mix a.toNat b.toNat e := Nat.div_le_self _ _
      have x2 : a.toNat / 2 ^ m % 2 < 2 := Nat.mod_lt _ (by omega)
      have y2 : b.toNat / 2 ^ m % 2 < 2 := Nat.mod_lt _ (by omega)
      generalize a.toNat / 2 ^ m % 2 = x at *
      generalize b.toNat / 2 ^ m % 2 = y at *
      generalize mix a.toNat b.toNat e / 2 ^ (m + 1) = n at *
      generalize hq : mix a.toNat b.toNat e / 2 ^ m = q at *
      have hn : (n : Int) ≤ 9223372036854775807 := by omega
      have HS := Lib.hid hst
      have HQ := Lib.hid hq
      clear hst hq hle
      have hx : x = 0 ∨ x = 1 := by omega
      have hy : y = 0 ∨ y = 1 := by omega
      clear x2 y2 hlt HZ
      rcases hx with rfl | rfl
      all_goals
        rcases hy with rfl | rfl
      all_goals
        cases e
      all_goals
        simp [mixB] at hbit
        have HBIT := Lib.hid hbit
        clear hbit
        go_wp2
        go_quiet (fail)
        go_wp2
        go_roundw
        case rel => exact ⟨m, by omega, rfl, by rw [HQ.out, HS.out]; have := HBIT.out; simp; omega, below_drewN hbel _⟩
        case measure => simp [intOf]
end Go.Proofs.Ythlplfcoaomhpaa.MulW
