/- What a law's arguments read as, opened: arrays of four numbers. -/
import Derived.ProofKit
import Derived.OpenShut
import Derived.ShutString
import Derived.ChangeOld
import Derived.Below
set_option linter.unusedVariables false
namespace Go.Proofs.YtmaphdhdfbgflaaGreatDoor.Open
open Go.ChangeShapes Go.WideShapes Go.ChangeAt Go.RowKit

theorem okWide_array {P : Program} {w : World} {r : Reach} {base : Nat} {t e : TypeId} {n : Nat} {v : Value} (ht : P.underlying t = some (.array n e)) (h : Value.okWide P w r base t v) : ∃ cs, v = .agg cs ∧ cs.size = P.cellsOf t := by
  simp only [Value.okWide, ht] at h
  obtain ⟨cs, h1, h2, _⟩ := h
  exact ⟨cs, h1, h2⟩

section
variable {H : Type} {enc : TypeId × Value → H} {P : Program} {w : World} {base b0 : Nat} {spare : Nat → Bool} {held : Bool} {r : Reach}

theorem arr4_of {cs : Array Value} (h : cs.size = 4) : ∃ a b c d, cs = #[a, b, c, d] := by
  obtain ⟨l⟩ := cs
  match l, h with
  | [a, b, c, d], _ => exact ⟨a, b, c, d, rfl⟩

/-- An array of four numbers. -/
theorem open_arr4 {t e : TypeId} {v : Value} {d : DataW H} {p : List MemPlace} (ht : P.underlying t = some (.array 4 e)) (he : P.underlying e = some (.int .u64)) (hC : P.cellsOf t = 4) (hc : P.cellsOf e = 1)
    (hv : Value.okWide P w r b0 t v) (h : DataW.Trod enc P w base spare held t v d p) :
    ∃ x0 x1 x2 x3 : Int, v = .agg #[.int .u64 x0, .int .u64 x1, .int .u64 x2, .int .u64 x3] ∧ (Lit.int .u64 x0).wf = true ∧ (Lit.int .u64 x1).wf = true ∧ (Lit.int .u64 x2).wf = true ∧ (Lit.int .u64 x3).wf = true := by
  obtain ⟨cs, rfl, hsz⟩ := okWide_array ht hv
  obtain ⟨c0, c1, c2, c3, rfl⟩ := arr4_of (hsz.trans hC)
  obtain ⟨fuel, hf⟩ := h
  obtain ⟨xs, m, rfl, _, _, hl, hx⟩ := DataW.trod_array ht hf
  have one : ∀ (i : Nat) (c : Value), i < 4 → ([c0, c1, c2, c3] : List Value)[i]? = some c → ∃ n : Int, c = .int .u64 n ∧ (Lit.int .u64 n).wf = true := by
    intro i c hi hci
    have h1 := hx i hi
    rw [hc, Nat.mul_one] at h1
    have h2 : (((Value.agg #[c0, c1, c2, c3]).cells.toList).drop i).take 1 = [c] := by
      match i, hi, hci with
      | 0, _, h => simp at h; subst h; rfl
      | 1, _, h => simp at h; subst h; rfl
      | 2, _, h => simp at h; subst h; rfl
      | 3, _, h => simp at h; subst h; rfl
    rw [h2] at h1
    have h3 : ∃ z, xs[i]? = some z := ⟨xs[i]'(by omega), List.getElem?_eq_getElem (by omega)⟩
    obtain ⟨z, hz⟩ := h3
    rw [hz] at h1
    obtain ⟨n, e1, e2, e3⟩ := DataW.trod_int he h1
    simp at e1
    exact ⟨n, e1, e3⟩
  obtain ⟨x0, rfl, k0⟩ := one 0 c0 (by omega) rfl
  obtain ⟨x1, rfl, k1⟩ := one 1 c1 (by omega) rfl
  obtain ⟨x2, rfl, k2⟩ := one 2 c2 (by omega) rfl
  obtain ⟨x3, rfl, k3⟩ := one 3 c3 (by omega) rfl
  exact ⟨x0, x1, x2, x3, rfl, k0, k1, k2, k3⟩
end
end Go.Proofs.YtmaphdhdfbgflaaGreatDoor.Open
