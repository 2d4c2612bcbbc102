/- The walk of the reference's Op: of every operator, and of every other text. -/
import Derived.Test.YthlplfcoaomhpaaMul2W
import Derived.Test.YthlplfcoaomhpaaRef1W
set_option linter.unusedVariables false
namespace Go.Proofs.Ythlplfcoaomhpaa.RefOpW
open Go.RowKit Go.Proofs.Ythlplfcoaomhpaa.Word Go.Proofs.Ythlplfcoaomhpaa.WordW Go.Proofs.Ythlplfcoaomhpaa.MulW

theorem Ans_pair {p : Int × Int} {x y : Int} {w w' : World} (hb : Below w.heap.size w w') (h : (x, y) = p) : Ans p w (.returned (.tuple #[.int .u64 x, .int .i64 y])) w' := Ans_mk h hb

set_option maxRecDepth 100000 in
set_option maxHeartbeats 2000000 in
theorem op_any (s : ByteArray) (a b : Int) (w : World) (ha : U a) (hb : U b) : Calls Try.prog 26 #[.string s, .int .u64 a, .int .u64 b] w (Ans (op s.toList a b) w) := by
  have H1 := Lib.hid (fun w => MulW.add_any a b w ha hb)
  have H2 := Lib.hid (fun w => Ref1W.sub_any a b w ha hb)
  have H3 := Lib.hid (fun w => Mul2W.mul_any a b w ha hb)
  have H4 := Lib.hid (fun w => Ref1W.div_any a b w ha hb)
  have H6 := Lib.hid (fun w => Ref1W.shl_any a b w ha hb)
  have H7 := Lib.hid (fun w => Ref1W.shr_any a b w ha hb)
  have H8 := Lib.hid (fun e w => MulW.both_any a b e w ha hb)
  have k1 : ((mix a.toNat b.toNat false : Nat) : Int) = band a b := rfl
  have k2 : ((mix a.toNat b.toNat true : Nat) : Int) = bor a b := rfl
  have e2 : (div a b).2 = (mod a b).2 := by unfold div mod; split <;> rfl
  have E2 := Lib.hid e2
  clear e2
  have b0 : Below w.heap.size w w := Below.refl _ _
  have B0 := Lib.hid b0
  clear b0
  go_enter Try.func26, Try.ntmps26
  go_wp2_with (first
    | (go_at_call 47; refine (H1.out _).mono ?_; rintro e w' ⟨rfl, hbl⟩)
    | (go_at_call 48; refine (H2.out _).mono ?_; rintro e w' ⟨rfl, rfl⟩)
    | (go_at_call 49; refine (H3.out _).mono ?_; rintro e w' ⟨rfl, hbl⟩)
    | (go_at_call 50; refine (H4.out _).mono ?_; rintro e w' ⟨rfl, hbl⟩)
    | (go_at_call 51; refine (H6.out _).mono ?_; rintro e w' ⟨rfl, rfl⟩)
    | (go_at_call 29; refine (H7.out _).mono ?_; rintro e w' ⟨rfl, rfl⟩)
    | (go_at_call 52; refine (H8.out _ _).mono ?_; rintro e w' ⟨rfl, hbl⟩)
    | (go_at_call 53; refine (Ref1W.truth_any _ _).mono ?_; rintro e w' ⟨rfl, rfl⟩))
  all_goals go_ret2
  all_goals first
    | (refine Ans_pair (by assumption) ?_; simp [op, cmp, *]; done)
    | (refine Ans_pair B0.out ?_; simp [op, cmp, *]; done)
    | (refine Ans_pair (by assumption) ?_; have := E2.out; simp [op, cmp, *]; done)
    | (refine Ans_pair B0.out ?_; have h : (a != 0) = true := bne_iff_ne.2 ‹¬a = 0›; simp [op, cmp, *]; done)
end Go.Proofs.Ythlplfcoaomhpaa.RefOpW
