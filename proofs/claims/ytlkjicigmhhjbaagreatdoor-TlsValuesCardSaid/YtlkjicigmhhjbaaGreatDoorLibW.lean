/- Contracts of the library's functions at this program, with what lies behind. -/
import Derived.Shelf.Strings.SlTrimAscii
import Derived.Shelf.Strings.Builder1
import Derived.Test.YtlkjicigmhhjbaaGreatDoorShelf
import Derived.WalkKit
set_option linter.unusedVariables false
set_option linter.unusedSimpArgs false
namespace Go.Proofs.RgLib
open Go.RowKit Go.Shelf
theorem trim (s cut : ByteArray) (w : World) (h1 : cut.size < 4294967281) (h2 : ∀ (j : Nat) b, cut.data.toList[j]? = some b → b.toNat < 128) :
    Calls Tryz.prog 90 #[.string s, .string cut] w fun e w' => e = .returned (.string ⟨(Lib.trimLeftS s.data.toList cut.data.toList).toArray⟩) ∧ Below w.heap.size w w' :=
  Any.strings_TrimLeft_laid Tryz.lays161 (by kernel_rfl) s cut w h1 h2
theorem Zme : (Tryz.prog.info? 184).map (·.size) = some 2 := by kernel_rfl
theorem Zwe : liesAt Tryz.prog Tryz.prog.depth 184 (2 / Tryz.prog.cellsOf 184) 0 184 1 = true := by kernel_rfl
set_option maxHeartbeats 1000000 in
set_option maxRecDepth 100000 in
theorem check_used (b : Nat) (w : World) (h0 : w.cell? ⟨b, 0, none⟩ = some (.pointer (some ⟨b, 0, none⟩))) :
    Calls Tryz.prog 124 #[.pointer (some ⟨b, 0, none⟩)] w fun e w' => e = .returned (.tuple #[]) ∧ w' = w := by
  obtain ⟨j, hj, _⟩ := Option.map_eq_some_iff.1 Zme
  go_enter Tryz.func124, Tryz.ntmps124
  go_wp2
  rw [Lib.run_neq_ptr_same w _ Tryz.underlying182 hj]
  go_wp2
  go_end0
  exact ⟨rfl, rfl⟩
set_option maxHeartbeats 1000000 in
set_option maxRecDepth 100000 in
theorem check_fresh (b : Nat) (w : World) (h0 : w.cell? ⟨b, 0, none⟩ = some (.pointer none)) (hsh : w.shape? b = some (184, 2)) (hfz : w.frozen? ⟨b, 0, none⟩ = false) :
    Calls Tryz.prog 124 #[.pointer (some ⟨b, 0, none⟩)] w fun e w' => e = .returned (.tuple #[]) ∧ w' = w.setCell ⟨b, 0, none⟩ (.pointer (some ⟨b, 0, none⟩)) := by
  obtain ⟨j, hj, hjs⟩ := Option.map_eq_some_iff.1 Zme
  go_enter Tryz.func124, Tryz.ntmps124
  go_wp2
  rw [Lib.run_to_unsafe w ⟨b, 0, none⟩ Tryz.underlying182 Tryz.underlying289 hj (by rw [hjs]; decide) hsh (Nat.zero_lt_succ 1)]
  simp only [Result.andThen]
  rw [Oper.upon_value]
  go_wp2
  rw [run_callFunc_extern Tryz.func172 (by kernel_rfl) (by kernel_rfl) (by kernel_rfl) (e := Extern.AbiNoEscape.same) (by kernel_rfl)]
  rw [Lib.run_noEscape]
  simp only [Result.andThen]
  rw [Oper.upon_value]
  go_wp2
  rw [Lib.run_from_unsafe w ⟨b, 0, none⟩ Tryz.underlying289 Tryz.underlying182 hj hsh Zwe]
  simp only [Result.andThen]
  rw [Oper.upon_value]
  go_wp2
  go_end0
  exact ⟨rfl, rfl⟩
set_option maxHeartbeats 1000000 in
set_option maxRecDepth 100000 in
theorem str (b gb cap : Nat) (cur : Array Value) (l : List UInt8) (w : World) (h0 : l ≠ []) (c1' : w.cell? ⟨b, 1, none⟩ = some (.slice (some ⟨gb, 0, none⟩) l.length cap)) (hg : w.heap[gb]? = some (.cells cur 5 (0, 0))) (hnc : l.length ≤ cap) (hcm : cap ≤ maxLen) (hcs : cur.size = cap * 1)
    (hx : ∀ (j : Nat) x, l[j]? = some x → w.cell? ⟨gb, j, none⟩ = some (.int .u8 x.toNat)) :
    Calls Tryz.prog 89 #[.pointer (some ⟨b, 0, none⟩)] w fun e w' => e = .returned (.string ⟨l.toArray⟩) ∧ w' = w.drew.freeze ⟨gb, 0, none⟩ l.length := by
  have L := Tryz.lays169
  have X := Tryz.Builder_Extra_169
  have hl0 : l.length ≠ 0 := by simpa using h0
  have c1 : w.drew.cell? ⟨b, 1, none⟩ = some (.slice (some ⟨gb, 0, none⟩) l.length cap) := c1'
  have hSD : (Builtin.unsafeSliceData_ #[71] 237 #[.slice (some ⟨gb, 0, none⟩) l.length cap]).run Tryz.prog w.drew = .ok (.pointer (some ⟨gb, 0, none⟩)) w.drew :=
    Lib.run_unsafeSliceData_row _ _ _ _ _ _ (by omega)
  have hUS : (Builtin.unsafeString_ #[237, 3] 9 #[.pointer (some ⟨gb, 0, none⟩), .int .i64 l.length]).run Tryz.prog w.drew = .ok (.string ⟨l.toArray⟩) (w.drew.freeze ⟨gb, 0, none⟩ l.length) := by
    refine Lib.run_unsafeString_row w.drew 237 3 9 5 L.t127 X.cellsByte gb cur.size (by have hg' : w.drew.heap[gb]? = some (.cells cur 5 (0, 0)) := hg; simp [World.shape?, hg']) l h0 (by omega) (by unfold maxLen at hcm; omega) ?_
    intro j x hxj
    have := hx j x hxj
    have e : (⟨gb, 0, none⟩ : Addr).add j = ⟨gb, j, none⟩ := by unfold Addr.add; split <;> simp_all
    rw [e]
    exact this
  have mixed := L.mixed
  go_enter Tryz.func89, Tryz.ntmps89
  go_wp2
  go_region_o
  all_goals (go_wp2; go_ret; exact ⟨rfl, rfl⟩)
end Go.Proofs.RgLib
