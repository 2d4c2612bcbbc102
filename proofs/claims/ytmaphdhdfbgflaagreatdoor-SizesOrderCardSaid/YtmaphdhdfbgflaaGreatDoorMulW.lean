/- The walks of the reference of layer 1: Add, Mul, both. -/
import Derived.Test.YtmaphdhdfbgflaaGreatDoorBitsW
import Derived.Deep.QuietTactic
import Derived.BigQuiet
set_option linter.unusedVariables false
namespace Go.Proofs.YtmaphdhdfbgflaaGreatDoor.MulW
open Go.RowKit Go.Proofs.YtmaphdhdfbgflaaGreatDoor.Word Go.Proofs.YtmaphdhdfbgflaaGreatDoor.WordW Go.Proofs.YtmaphdhdfbgflaaGreatDoor.BitsN Go.Proofs.YtmaphdhdfbgflaaGreatDoor.BitsW

/-- A number and its error; nothing that was there has turned. -/
def Ans (p : Int × Int) (w : World) (e : Ending) (w' : World) : Prop := e = .returned (.tuple #[.int .u64 p.1, .int .i64 p.2]) ∧ Below w.heap.size w w'
theorem Ans_mk {p : Int × Int} {x y : Int} {w w' : World} (h : (x, y) = p) (hb : Below w.heap.size w w') : Ans p w (.returned (.tuple #[.int .u64 x, .int .i64 y])) w' := by subst h; exact ⟨rfl, hb⟩
theorem Ans_of {p : Int × Int} {w w' : World} {e : Ending} (h : ans p w e w') : Ans p w e w' := by obtain ⟨rfl, rfl⟩ := h; exact ⟨rfl, Below.refl _ _⟩

theorem val_bits64 {a : Nat} (ha : a < 18446744073709551616) : val (bitsOf a 64) = a := by
  rw [val_bitsOf, Nat.mod_eq_of_lt (by omega)]

theorem num_add {zs : List Int} {a b : Nat} (h : val zs = a + b) : num zs = add a b := by unfold num add; rw [h]

theorem add_any (a b : Int) (w : World) (ha : U a) (hb : U b) : Calls Tryz.prog 16 #[.int .u64 a, .int .u64 b] w (Ans (add a b) w) := by
  go_enter Tryz.func16, Tryz.ntmps16
  go_wp2_with fail
  refine (bits_any a _ ha).mono ?_
  rintro e w1 ⟨g, rfl, cx, hg1, hg2, hb1⟩
  have CX := Lib.hid cx
  clear cx
  go_wp2_with fail
  refine (bits_any b _ hb).mono ?_
  rintro e w2 ⟨h, rfl, cy, hh1, hh2, hb2⟩
  have cx2 := CX.out.later hb2 hg2
  have CY := Lib.hid cy
  have CX2 := Lib.hid cx2
  clear cy cx2
  go_wp2_with fail
  have hp := plus_any (bitsOf a.toNat 64) (bitsOf b.toNat 64) g h 64 64 w2 (bitsOf_isBits _ _) (bitsOf_isBits _ _) (by rw [bitsOf_length]; omega) (by rw [bitsOf_length]; omega) CX2.out CY.out (Nat.lt_of_lt_of_le hg2 hb2.size) hh2
  rw [bitsOf_length, bitsOf_length] at hp
  refine hp.mono ?_
  clear hp
  rintro e w3 ⟨k, zs, rfl, cz, bz, hz, lz, hk1, hk2, hb3⟩
  rw [bitsOf_length, bitsOf_length] at lz
  obtain ⟨a, rfl⟩ := Int.eq_ofNat_of_zero_le ha.lo
  obtain ⟨b, rfl⟩ := Int.eq_ofNat_of_zero_le hb.lo
  simp only [Int.toNat_natCast] at hz
  rw [val_bits64 (by have := ha.hi; omega), val_bits64 (by have := hb.hi; omega)] at hz
  have HN := Lib.hid (num_add hz)
  have HB := Lib.hid (hb1.trans ((hb2.mono (B' := w.heap.size) (by omega)).trans (hb3.mono (B' := w.heap.size) (by have := hb1.size; have := hb2.size; omega))))
  have lz2 : zs.length ≤ 1000000 := by omega
  have CZ := Lib.hid cz
  have HM := fun w c => number_any zs k c w bz lz2
  clear hz lz cz hb1 hb2 hb3
  have HM := Lib.hid HM
  go_wp2_with fail
  refine (HM.out _ _ CZ.out).mono ?_
  rintro e w' ⟨rfl, rfl⟩
  rw [HN.out]
  go_wp2_with fail
  go_ret2
  exact Ans_mk rfl HB.out

end Go.Proofs.YtmaphdhdfbgflaaGreatDoor.MulW
