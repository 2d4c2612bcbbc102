/- The law BoundsHolds, in a world. -/
import Derived.Test.YtadigpaglappbaaHoldsS
import Derived.Test.YtadigpaglappbaaOpenS
import Derived.Test.YtadigpaglappbaaLibS
set_option linter.unusedVariables false
namespace Go.Abs.Sy
open Go.Abs.Run hiding op
open Go.Proofs.Ytadigpaglappbaa.Word Go.Proofs.Ytadigpaglappbaa.BoundsN Go.Proofs.Ytadigpaglappbaa.ExprN
open Go.RowKit Go.Proofs
theorem ptr24 : (env Go.Proofs.Try.prog).P.underlying 24 = some (.pointer 57) := by kernel_rfl
theorem simp_row (v : VV) : ∀ u ∈ vrow v, (simp1 u).isSome = true := by
  intro u hu
  simp only [vrow, List.mem_cons, List.not_mem_nil, or_false] at hu
  rcases hu with rfl | rfl | rfl | rfl <;> rfl
/-- The law holds of all that came in. -/
theorem holds_world {w : World} {lv vv : Value} {at' : Int} {es : List EX} {vs : List VV} (hl : ExprsAt w lv es) (hv : RowsAt w vv 4 (vs.map vrow)) (hes : ∀ x ∈ es, U x.n) (hvs : ∀ v ∈ vs, VU v) (hel : es.length ≤ maxLen) (hvl : vs.length ≤ maxLen) :
    Calls Go.Proofs.Try.prog 4 #[lv, .int .i64 at', vv] w fun e w' => e = .returned (.bool true) ∧ Below w.heap.size w w' := by
  have hm : maxLen ≤ 9223372036854775807 := by decide
  have ok := ov_none w
  obtain ⟨ld, h1, h2⟩ := exprs_D ok hl (fun a n cap _ o => rfl)
  obtain ⟨vd, h3, h4⟩ := rows_D ok hv (fun r hr => by obtain ⟨v, _, rfl⟩ := List.mem_map.1 hr; rfl) (fun r hr u hu => by obtain ⟨v, _, rfl⟩ := List.mem_map.1 hr; exact simp_row v u hu)
  have hc := holds_ev (E := env Go.Proofs.Try.prog) ptr24 h1 (vrow_D h3) hes hvs (Nat.le_trans hel hm) (Nat.le_trans hvl hm) at' hTop
  refine (world_calls told' TT_ok (fun _ => rfl) ok hc (.cons h2 (.cons (.int _ _) (.cons h4 (.nil _)))) (enters_of Go.Proofs.Try.func4 (by kernel_rfl) rfl)).mono ?_
  rintro e w' ⟨d, h', v, g', rfl, rfl, _, hv', hb, _⟩
  cases hv'
  exact ⟨rfl, hb⟩
end Go.Abs.Sy
