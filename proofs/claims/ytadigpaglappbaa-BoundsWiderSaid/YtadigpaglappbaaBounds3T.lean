/- The walks of the laws of layer 11: what wakes answers, the operators, BoundsOp. -/
import Derived.Test.YtadigpaglappbaaBounds2T
import Derived.Test.YtadigpaglappbaaBoundsL
import Derived.Deep.DeepCutAuto
import Derived.Test.YtadigpaglappbaaRegHead
set_option linter.unusedVariables false
namespace Go.Proofs.Ytadigpaglappbaa.Bounds3T
open Go.RowKit Go.Proofs.Ytadigpaglappbaa.Word Go.Proofs.Ytadigpaglappbaa.WordW Go.Proofs.Ytadigpaglappbaa.BoundsN Go.Proofs.Ytadigpaglappbaa.BoundsW Go.Proofs.Ytadigpaglappbaa.Bounds2T Go.Proofs.Ytadigpaglappbaa.Mem Go.Proofs.Ytadigpaglappbaa.BoundsL Go.Proofs.Ytadigpaglappbaa.RegHead

def Yes (w : World) (e : Ending) (w' : World) : Prop := e = .returned (.bool true) ∧ Bel w w'
theorem ur {x y : Int} (hx : 0 ≤ x ∧ x ≤ 18446744073709551615) (hy : 0 ≤ y ∧ y ≤ 18446744073709551615) : UR ⟨x, y⟩ := ⟨hx, hy⟩

set_option maxHeartbeats 1000000 in
theorem wakes_any (w : World) : Calls Try.prog 11 #[] w (Yes w) := by
  have e1 : (bop [45] ⟨3, 9⟩ ⟨5, 6⟩).2 = true := by decide
  have e2 : (bop [45] ⟨3, 9⟩ ⟨5, 6⟩).1.lo = 0 := by decide
  have e3 : (bop [45] ⟨3, 9⟩ ⟨5, 6⟩).1.hi = 4 := by decide
  have e4 : (bop [45] ⟨3, 3⟩ ⟨5, 5⟩).2 = false := by decide
  have e5 : mask 8 = 255 := by decide
  have H1 := Lib.hid (fun w => bop_any ⟨#[45]⟩ ⟨3, 9⟩ ⟨5, 6⟩ w (ur (by decide) (by decide)) (ur (by decide) (by decide)))
  have H2 := Lib.hid (fun w => bop_any ⟨#[45]⟩ ⟨3, 3⟩ ⟨5, 5⟩ w (ur (by decide) (by decide)) (ur (by decide) (by decide)))
  go_enter Try.func11, Try.ntmps11
  go_wp2_with fail
  refine (H1.out _).mono ?_
  rintro e w1 ⟨rfl, hb1⟩
  simp only [ByteArray.toList_mk]
  have HB1 := Lib.hid hb1
  clear hb1
  go_wp2_with (go_at_call 8; refine (point_exact _ _).mono ?_; rintro e w' ⟨rfl, rfl⟩)
  refine (H2.out _).mono ?_
  rintro e w2 ⟨rfl, hb2⟩
  obtain ⟨hc, hf⟩ := bcell hb2
  obtain ⟨hc2, hf2⟩ := acell hb2
  have hz := hb2.size
  simp at hz
  have HB2 := Lib.hid hb2
  clear hb2
  go_wp2_with (go_at_call 17; refine (all_any _ _).mono ?_; rintro e w3 ⟨rfl, hb3⟩; have HB3 := Lib.hid hb3; clear hb3)
  go_ret
  refine ⟨rfl, HB1.out.then (Bel.then (Bel.then ?_ HB2.out) (Bel.then ?_ HB3.out))⟩
  all_goals exact by repeat (first | exact Bel.refl _ | refine Bel.new ?_ _)

end Go.Proofs.Ytadigpaglappbaa.Bounds3T
