/- The functions that are given by their answers answer so. -/
import Derived.Test.YtadigpaglappbaaTable
import Derived.Test.YtadigpaglappbaaRangeE
import Derived.Test.YtadigpaglappbaaRangeV
import Derived.Test.YtadigpaglappbaaBounds3T
set_option linter.unusedVariables false
namespace Go.Abs
namespace Run
open Go.Proofs Go.RowKit
open Go.Proofs.Ytadigpaglappbaa.Word Go.Proofs.Ytadigpaglappbaa.BoundsN
theorem last2_eq (nm : Nat → ByteArray) (z : Nat → Int) (s : ByteArray) : ∀ k, Rg.last nm z s k = last2 nm z s k
  | 0 => rfl
  | k + 1 => by simp only [Rg.last, last2, last2_eq nm z s k]
theorem last3_eq (nm : Nat → ByteArray) (z y : Nat → Int) (s : ByteArray) : ∀ k, Rg2.last nm z y s k = last3 nm z y s k
  | 0 => rfl
  | k + 1 => by simp only [Rg2.last, last3, last3_eq nm z y s k]
theorem u_of {n : Int} (h : uOk n = true) : U n := by
  simp only [uOk, Bool.and_eq_true, decide_eq_true_eq] at h
  exact h
theorem bif_val {c : Bool} {a x : Value} (h : (bif c then some a else none) = some x) : c = true ∧ a = x := by
  cases c with
  | true => exact ⟨rfl, by simpa using h⟩
  | false => cases h
theorem sim24 : LibSim Try.prog 24 (libP plWop) glob := libP_sim (enters_of Try.func24 (by kernel_rfl) rfl) fun vs v w h => by
  unfold plWop at h
  split at h
  · rename_i s a b
    obtain ⟨hc, rfl⟩ := bif_val h
    simp only [Bool.and_eq_true] at hc
    exact (Ytadigpaglappbaa.WordW.op_any s a b w (u_of hc.1) (u_of hc.2)).mono fun e w' hh => ⟨hh.1, hh.2 ▸ Below.refl _ _⟩
  · cases h
theorem sim16 : LibSim Try.prog 16 (libP plBop) glob := libP_sim (enters_of Try.func16 (by kernel_rfl) rfl) fun vs v w h => by
  unfold plBop at h
  split at h
  · rename_i s a b c d
    obtain ⟨hc, rfl⟩ := bif_val h
    simp only [Bool.and_eq_true] at hc
    exact (Ytadigpaglappbaa.Bounds2T.bop_any s ⟨a, b⟩ ⟨c, d⟩ w ⟨u_of hc.1.1.1, u_of hc.1.1.2⟩ ⟨u_of hc.1.2, u_of hc.2⟩).mono fun e w' hh => hh
  · cases h
theorem sim29 : LibSim Try.prog 29 (libP plTruth) glob := libP_sim (enters_of Try.func29 (by kernel_rfl) rfl) fun vs v w h => by
  unfold plTruth at h
  split at h
  · rename_i b
    cases h
    exact (Ytadigpaglappbaa.WordW.truth_any b w).mono fun e w' hh => ⟨hh.1, hh.2 ▸ Below.refl _ _⟩
  · cases h
theorem sim8 : LibSim Try.prog 8 (libP plPoint) glob := libP_sim (enters_of Try.func8 (by kernel_rfl) rfl) fun vs v w h => by
  unfold plPoint at h
  split at h
  · rename_i n
    cases h
    exact (Ytadigpaglappbaa.Bounds2T.point_of n w).mono fun e w' hh => hh
  · cases h
theorem sim17 : LibSim Try.prog 17 (libP plAll) glob := libP_sim (enters_of Try.func17 (by kernel_rfl) rfl) fun vs v w h => by
  unfold plAll at h
  split at h
  · rename_i n
    cases h
    exact (Ytadigpaglappbaa.Bounds2T.all_any n w).mono fun e w' hh => hh
  · cases h
theorem sim11 : LibSim Try.prog 11 (libP plWakes) glob := libP_sim (enters_of Try.func11 (by kernel_rfl) rfl) fun vs v w h => by
  unfold plWakes at h
  split at h
  · cases h
    exact (Ytadigpaglappbaa.Bounds3T.wakes_any w).mono fun e w' hh => hh
  · cases h
theorem sim18 : LibSim Try.prog 18 libName glob := libName_sim (enters_of Try.func18 (by kernel_rfl) rfl) fun rb ro a len cap nm z y s w hl hv hI => by
  have := callsIn_wide.1 (Rg2.name_in Fence.wide 4 trivial trivial trivial trivial rfl (Nat.le_refl _) rb ro a len cap nm z y s hl w hv hI)
  simp only [last3_eq] at this
  exact this
theorem sim28 : LibSim Try.prog 28 libGet glob := libGet_sim (enters_of Try.func28 (by kernel_rfl) rfl) fun a len cap nm z s w hl hI => by
  have := callsIn_wide.1 (Rg.Get_in Fence.wide 3 trivial trivial trivial rfl (Nat.le_refl _) a len cap nm z s hl w hI)
  simp only [last2_eq] at this
  exact this
theorem bif_some {α : Type} {c : Bool} {a x : α} {o : Option α} (h : (bif c then some a else o) = some x) : (c = true ∧ a = x) ∨ o = some x := by
  cases c with
  | true => exact .inl ⟨rfl, by simpa using h⟩
  | false => exact .inr h
theorem libs_sim (f : Nat) (lf : List D → H → O D) (h : libs f = some lf) : LibSim Try.prog f lf glob := by
  unfold libs at h
  rcases bif_some h with ⟨hf, rfl⟩ | h
  · rw [Nat.eq_of_beq_eq_true hf]; exact sim8
  rcases bif_some h with ⟨hf, rfl⟩ | h
  · rw [Nat.eq_of_beq_eq_true hf]; exact sim11
  rcases bif_some h with ⟨hf, rfl⟩ | h
  · rw [Nat.eq_of_beq_eq_true hf]; exact sim16
  rcases bif_some h with ⟨hf, rfl⟩ | h
  · rw [Nat.eq_of_beq_eq_true hf]; exact sim17
  rcases bif_some h with ⟨hf, rfl⟩ | h
  · rw [Nat.eq_of_beq_eq_true hf]; exact sim18
  rcases bif_some h with ⟨hf, rfl⟩ | h
  · rw [Nat.eq_of_beq_eq_true hf]; exact sim24
  rcases bif_some h with ⟨hf, rfl⟩ | h
  · rw [Nat.eq_of_beq_eq_true hf]; exact sim28
  rcases bif_some h with ⟨hf, rfl⟩ | h
  · rw [Nat.eq_of_beq_eq_true hf]; exact sim29
  cases h
theorem libs_grow (f : Nat) (lf : List D → H → O D) (h : libs f = some lf) : ∀ ds h, Ogrow h (lf ds h) := by
  unfold libs at h
  rcases bif_some h with ⟨hf, rfl⟩ | h
  · exact libP_grow _
  rcases bif_some h with ⟨hf, rfl⟩ | h
  · exact libP_grow _
  rcases bif_some h with ⟨hf, rfl⟩ | h
  · exact libP_grow _
  rcases bif_some h with ⟨hf, rfl⟩ | h
  · exact libP_grow _
  rcases bif_some h with ⟨hf, rfl⟩ | h
  · exact libName_grow
  rcases bif_some h with ⟨hf, rfl⟩ | h
  · exact libP_grow _
  rcases bif_some h with ⟨hf, rfl⟩ | h
  · exact libGet_grow
  rcases bif_some h with ⟨hf, rfl⟩ | h
  · exact libP_grow _
  cases h
theorem told' : Told Try.prog glob (env Try.prog) := told Try.prog glob libs (by kernel_rfl) libs_sim libs_grow
end Run
end Go.Abs
