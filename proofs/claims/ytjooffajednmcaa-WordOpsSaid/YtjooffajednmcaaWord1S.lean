/- The walks of the laws WordSums and WordOps of layer 1. -/
import Derived.Test.YtjooffajednmcaaRefOpW
import Derived.Test.YtjooffajednmcaaWord1L
set_option linter.unusedVariables false
namespace Go.Proofs.Ytjooffajednmcaa.Word1S
open Go.RowKit Go.Proofs.Ytjooffajednmcaa.Word Go.Proofs.Ytjooffajednmcaa.WordW Go.Proofs.Ytjooffajednmcaa.Word1L

theorem five_ops (k : Nat) (h : k < 5) : ∃ s : ByteArray, [Value.string { data := #[43] }, Value.string { data := #[45] }, Value.string { data := #[42] }, Value.string { data := #[47] }, Value.string { data := #[37] }][k]? = some (.string s) := by
  match k, h with
  | 0, _ => exact ⟨_, rfl⟩
  | 1, _ => exact ⟨_, rfl⟩
  | 2, _ => exact ⟨_, rfl⟩
  | 3, _ => exact ⟨_, rfl⟩
  | 4, _ => exact ⟨_, rfl⟩
theorem eleven_ops (t : ByteArray) (k : Nat) (h : k < 11) : ∃ s : ByteArray, [Value.string t, Value.string { data := #[38] }, Value.string { data := #[124] }, Value.string { data := #[61, 61] }, Value.string { data := #[33, 61] }, Value.string { data := #[60] }, Value.string { data := #[60, 61] }, Value.string { data := #[62] }, Value.string { data := #[62, 61] }, Value.string { data := #[38, 38] }, Value.string { data := #[124, 124] }][k]? = some (.string s) := by
  match k, h with
  | 0, _ => exact ⟨_, rfl⟩
  | 1, _ => exact ⟨_, rfl⟩
  | 2, _ => exact ⟨_, rfl⟩
  | 3, _ => exact ⟨_, rfl⟩
  | 4, _ => exact ⟨_, rfl⟩
  | 5, _ => exact ⟨_, rfl⟩
  | 6, _ => exact ⟨_, rfl⟩
  | 7, _ => exact ⟨_, rfl⟩
  | 8, _ => exact ⟨_, rfl⟩
  | 9, _ => exact ⟨_, rfl⟩
  | 10, _ => exact ⟨_, rfl⟩

set_option maxHeartbeats 1000000 in
theorem sums_any (a b : Int) (w : World) (ha : U a) (hb : U b) : Calls Try.prog 3 #[.int .u64 a, .int .u64 b] w (Yes w) := by
  have k1 : op [43] a b = add a b := rfl
  go_enter Try.func3, Try.ntmps3
  go_wp2_with fail
  go_loopw [17] (fun i wr => ∃ k : Nat, k ≤ 5 ∧ i = .int .i64 k ∧ Below (w.heap.size + 1) (w.alloc (.cells #[Value.string { data := #[43] }, Value.string { data := #[45] }, Value.string { data := #[42] }, Value.string { data := #[47] }, Value.string { data := #[37] }] 9)) wr) (fun i _ => 5 - (intOf i).toNat)
  case atStart => exact ⟨0, by omega, rfl, Below.refl _ _⟩
  case round =>
    obtain ⟨k, hk, rfl, hbel⟩ := hrel
    have HB : Hid (Below w.heap.size w wr) := Lib.hid (((Below.refl _ _).alloc (Nat.le_refl _) _).trans (hbel.mono (by omega)))
    by_cases hlt : k < 5
    · obtain ⟨s, hs⟩ := five_ops k hlt
      have hc : wr.cell? ⟨w.heap.size, k, none⟩ = some (.string s) := by
        rw [hbel.cell (by exact Nat.lt_succ_self _), cell_of_row _ _ _ _ 9 (0, 0) (heap_alloc_new w _)]
        simpa using hs
      have HBE := Lib.hid hbel
      clear hs hbel
      go_wp2_with (first
        | (go_at_call 9; refine (WordW.op_any _ _ _ _ ha hb).mono ?_; rintro e w' ⟨rfl, rfl⟩)
        | (go_at_call 10; refine (RefOpW.op_any _ _ _ _ ha hb).mono ?_; rintro e w' ⟨rfl, hb3⟩; have HB3 := Lib.hid hb3; clear hb3))
      go_roundw
      case rel => exact ⟨k + 1, by omega, by go_num, HBE.out.trans (HB3.out.mono (by have := HBE.out.size; simp at this; omega))⟩
      case measure => simp [intOf]; omega
    · have e1 : k = 5 := by omega
      subst e1
      go_wp2_with (first
        | (go_at_call 9; refine (WordW.op_any _ _ _ _ ha hb).mono ?_; rintro e w' ⟨rfl, rfl⟩)
        | (go_at_call 11; refine (WordW.add_any _ _ _ ha hb).mono ?_; rintro e w' ⟨rfl, rfl⟩)
        | (go_at_call 12; refine (wakes_any _).mono ?_; rintro e w' ⟨rfl, rfl⟩))
      go_ret
      exact ⟨rfl, HB.out⟩

set_option maxHeartbeats 1000000 in
theorem ops_any (s : ByteArray) (a b : Int) (w : World) (hs : s.size ≤ maxLen) (ha : U a) (hb : U b) : Calls Try.prog 5 #[.string s, .int .u64 a, .int .u64 b] w (Yes w) := by
  unfold maxLen at hs
  go_enter Try.func5, Try.ntmps5
  go_wp2_with fail
  case' inl => generalize s.extract 0 4 = t
  case' inr => obtain ⟨t, rfl⟩ : ∃ t : ByteArray, t = s := ⟨s, rfl⟩
  all_goals
    go_loopw [21] (fun i wr => ∃ k : Nat, k ≤ 11 ∧ i = .int .i64 k ∧ Below (w.heap.size + 1) (w.alloc (.cells #[Value.string t, Value.string { data := #[38] }, Value.string { data := #[124] }, Value.string { data := #[61, 61] }, Value.string { data := #[33, 61] }, Value.string { data := #[60] }, Value.string { data := #[60, 61] }, Value.string { data := #[62] }, Value.string { data := #[62, 61] }, Value.string { data := #[38, 38] }, Value.string { data := #[124, 124] }] 9)) wr) (fun i _ => 11 - (intOf i).toNat)
    case atStart => exact ⟨0, by omega, rfl, Below.refl _ _⟩
    case round =>
      obtain ⟨k, hk, rfl, hbel⟩ := hrel
      have HB : Hid (Below w.heap.size w wr) := Lib.hid (((Below.refl _ _).alloc (Nat.le_refl _) _).trans (hbel.mono (by omega)))
      by_cases hlt : k < 11
      · obtain ⟨s, hs⟩ := eleven_ops t k hlt
        have hc : wr.cell? ⟨w.heap.size, k, none⟩ = some (.string s) := by
          rw [hbel.cell (by exact Nat.lt_succ_self _), cell_of_row _ _ _ _ 9 (0, 0) (heap_alloc_new w _)]
          simpa using hs
        have HBE := Lib.hid hbel
        clear hs hbel
        go_wp2_with (first
          | (go_at_call 9; refine (WordW.op_any _ _ _ _ ha hb).mono ?_; rintro e w' ⟨rfl, rfl⟩)
          | (go_at_call 10; refine (RefOpW.op_any _ _ _ _ ha hb).mono ?_; rintro e w' ⟨rfl, hb3⟩; have HB3 := Lib.hid hb3; clear hb3))
        go_roundw
        case rel => exact ⟨k + 1, by omega, by go_num, HBE.out.trans (HB3.out.mono (by have := HBE.out.size; simp at this; omega))⟩
        case measure => simp [intOf]; omega
      · have e1 : k = 11 := by omega
        subst e1
        go_wp2_with (go_at_call 12; refine (wakes_any _).mono ?_; rintro e w' ⟨rfl, rfl⟩)
        go_ret
        exact ⟨rfl, HB.out⟩
end Go.Proofs.Ytjooffajednmcaa.Word1S
