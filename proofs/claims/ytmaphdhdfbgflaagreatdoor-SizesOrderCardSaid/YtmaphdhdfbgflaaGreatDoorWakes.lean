/- The fixed examples of layer 12 hold, in every world in which the reader's signs lie as they are laid. -/
import Derived.Test.YtmaphdhdfbgflaaGreatDoorRun
import Derived.Test.YtmaphdhdfbgflaaGreatDoorRangeE
import Derived.Test.YtmaphdhdfbgflaaGreatDoorRangeV
import Derived.Test.YtmaphdhdfbgflaaGreatDoorLibW
set_option linter.unusedVariables false
namespace Go.Abs
namespace Run
open Go.Proofs Go.RowKit

theorem last2_eq (nm : Nat → ByteArray) (z : Nat → Int) (s : ByteArray) : ∀ k, Rg.last nm z s k = last2 nm z s k
  | 0 => rfl
  | k + 1 => by simp only [Rg.last, last2, last2_eq nm z s k]
theorem last3_eq (nm : Nat → ByteArray) (z y : Nat → Int) (s : ByteArray) : ∀ k, Rg2.last nm z y s k = last3 nm z y s k
  | 0 => rfl
  | k + 1 => by simp only [Rg2.last, last3, last3_eq nm z y s k]

theorem sim25 : LibSim Tryz.prog 25 (libExt Tryz.prog 25) glob := libExt_sim 25
theorem sim62 : LibSim Tryz.prog 62 libTrim glob := libTrim_sim (enters_of Tryz.func62 (by kernel_rfl) rfl) RgLib.trim
theorem sim104 : LibSim Tryz.prog 104 (libString 5) glob := libString_sim (by kernel_rfl) (enters_of Tryz.func104 (by kernel_rfl) rfl) RgLib.str
theorem sim144 : LibSim Tryz.prog 144 (libCheck 184) glob := libCheck_sim (enters_of Tryz.func144 (by kernel_rfl) rfl) RgLib.check_fresh RgLib.check_used
theorem sim206 : LibSim Tryz.prog 206 libName glob := libName_sim (enters_of Tryz.func206 (by kernel_rfl) rfl) fun rb ro a len cap nm z y s w hl hv hI => by
  have := callsIn_wide.1 (Rg2.name_in Fence.wide 4 trivial trivial trivial trivial rfl (Nat.le_refl _) rb ro a len cap nm z y s hl w hv hI)
  simp only [last3_eq] at this
  exact this
theorem sim224 : LibSim Tryz.prog 224 libGet glob := libGet_sim (enters_of Tryz.func224 (by kernel_rfl) rfl) fun a len cap nm z s w hl hI => by
  have := callsIn_wide.1 (Rg.Get_in Fence.wide 3 trivial trivial trivial rfl (Nat.le_refl _) a len cap nm z s hl w hI)
  simp only [last2_eq] at this
  exact this

theorem bif_some {α : Type} {c : Bool} {a x : α} {o : Option α} (h : (bif c then some a else o) = some x) : (c = true ∧ a = x) ∨ o = some x := by
  cases c with
  | true => exact .inl ⟨rfl, by simpa using h⟩
  | false => exact .inr h
theorem libs_sim (f : Nat) (lf : List D → H → O D) (h : libs Tryz.prog f = some lf) : LibSim Tryz.prog f lf glob := by
  unfold libs at h
  rcases bif_some h with ⟨hf, rfl⟩ | h
  · rw [Nat.eq_of_beq_eq_true hf]; exact sim25
  rcases bif_some h with ⟨hf, rfl⟩ | h
  · rw [Nat.eq_of_beq_eq_true hf]; exact sim62
  rcases bif_some h with ⟨hf, rfl⟩ | h
  · rw [Nat.eq_of_beq_eq_true hf]; exact sim104
  rcases bif_some h with ⟨hf, rfl⟩ | h
  · rw [Nat.eq_of_beq_eq_true hf]; exact sim144
  rcases bif_some h with ⟨hf, rfl⟩ | h
  · rw [Nat.eq_of_beq_eq_true hf]; exact sim206
  rcases bif_some h with ⟨hf, rfl⟩ | h
  · rw [Nat.eq_of_beq_eq_true hf]; exact sim224
  cases h
theorem libs_grow (f : Nat) (lf : List D → H → O D) (h : libs Tryz.prog f = some lf) : ∀ ds h, Ogrow h (lf ds h) := by
  unfold libs at h
  rcases bif_some h with ⟨hf, rfl⟩ | h
  · exact libExt_grow 25
  rcases bif_some h with ⟨hf, rfl⟩ | h
  · exact libTrim_grow
  rcases bif_some h with ⟨hf, rfl⟩ | h
  · exact libString_grow 5
  rcases bif_some h with ⟨hf, rfl⟩ | h
  · exact libCheck_grow 184
  rcases bif_some h with ⟨hf, rfl⟩ | h
  · exact libName_grow
  rcases bif_some h with ⟨hf, rfl⟩ | h
  · exact libGet_grow
  cases h
theorem told' : Told Tryz.prog glob (env Tryz.prog) := told Tryz.prog glob (libs Tryz.prog) (by kernel_rfl) libs_sim libs_grow

/-- The fixed examples. -/
theorem wakes_any (w : World) (hg : Holds glob w) : Calls Tryz.prog 5 #[] w fun e w' => e = .returned (.bool true) ∧ Below w.heap.size w w' :=
  top_true told' TT_ok wakes_run hg (enters_of Tryz.func5 (by kernel_rfl) rfl)
theorem holds_below {w w' : World} (hb : Below w.heap.size w w') (hg : Holds glob w) : Holds glob w' := fun b cs o d h1 h2 => by
  obtain ⟨v, hv, hr⟩ := hg b cs o d h1 h2
  have hlt : b < w.heap.size := by have := World.block_lt_of_cell? w _ hv; simpa using this
  exact ⟨v, (hb.cell (p := ⟨b, o, none⟩) hlt).trans hv, hr⟩
end Run
end Go.Abs
