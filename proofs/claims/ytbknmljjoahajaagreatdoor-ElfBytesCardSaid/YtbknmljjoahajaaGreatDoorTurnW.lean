/- Functions of the program that are given by hand: what they do in a world. -/
import Derived.Test.YtbknmljjoahajaaGreatDoorLibW
import Derived.Shelf.RegionOpenPlain
import Derived.WalkKit
import Derived.Deep.LoopGhost
import Derived.Lib.Walk
import Derived.Sort.WalkB12
import Derived.Lib.SlicesMore
import Derived.Lib.ConvBytes
import Derived.Lib.OwnBridge
import Derived.Test.YtbknmljjoahajaaGreatDoorAbsLib
namespace Go.Proofs.TurnW
open Go.Shelf Go.RowKit Go.Lib Go.Sort

abbrev encB (b : UInt8) : Value := .int .u8 (b.toNat : Int)
set_option maxHeartbeats 1600000 in
set_option maxRecDepth 1000000 in
theorem rev_bytes (blk off cap : Nat) (d : Array UInt8) (w : World) (hH : Holds encB w blk off d) (hsz : d.size ≤ 9223372036854775807) :
    Calls Tryz.prog 120 #[.slice (some ⟨blk, off, none⟩) d.size cap] w fun e w' => e = .returned (.tuple #[]) ∧ ∃ n, w' = putRow encB (Sort.ahead w n) blk off d.reverse := by
  have mixed : Tryz.prog.follows .mixedOrders = true := by kernel_rfl
  go_enter Tryz.func120, Tryz.ntmps120
  go_wp2
  go_loopg [2, 3] d.size (fun k s2 s3 wr => ∃ (i jn : Nat) (jz : Int) (dk : Array UInt8) (n : Nat), s2 = .int .i64 i ∧ s3 = .int .i64 jz ∧ ((i : Int) < jz → jz = jn ∧ jn < d.size) ∧ (¬ (i : Int) < jz → ¬ i < jn) ∧ jn - i ≤ k ∧
    dk.size = d.size ∧ wr = putRow encB (Sort.ahead w n) blk off dk ∧ reverseLoop i jn dk = reverseLoop 0 (d.size - 1) d)
  case atStart => exact ⟨0, d.size - 1, (d.size : Int) - 1, d, 0, rfl, rfl, fun h => ⟨by omega, by omega⟩, fun h => by omega, by omega, rfl, (putRow_self encB w blk off d hH).symm, rfl⟩
  case round =>
    obtain ⟨i, jn, jz, dk, n, rfl, rfl, h1, h2, hk, hds, hwr, heq⟩ := hrel
    by_cases hlt : (i : Int) < jz
    · obtain ⟨rfl, hjn⟩ := h1 hlt
      have hij : i < jn := by omega
      have hHk : Holds encB wr blk off dk := by rw [hwr]; exact holds_putRow encB _ blk off d dk (holds_ahead encB w n blk off d hH) hds
      obtain ⟨ci, fi⟩ := hHk i (by omega)
      obtain ⟨cj, fj⟩ := hHk jn (by omega)
      have A : Aside (wr = putRow encB (Sort.ahead w n) blk off dk) := hwr
      clear hwr hHk hH h1 h2
      go_wp2_with fail
      go_region_o
      go_wp2
      go_roundg (jn - 1 - (i + 1))
      case measure => omega
      case rel =>
        rw [reverseLoop, if_pos hij] at heq
        exact ⟨i + 1, jn - 1, (jn : Int) - 1, swp dk i jn, n + 1, by simp, rfl, fun h => ⟨by omega, by omega⟩, fun h => by omega, Nat.le_refl _, by rw [size_swp]; exact hds,
          swap_world encB (by omega) (by omega) A.out (by first | rfl | simp [encB, getElem!_pos, show jn < dk.size by omega]) (by first | rfl | simp [encB, getElem!_pos, show i < dk.size by omega]), heq⟩
    · have hnot := h2 hlt
      go_wp2
      go_end0
      refine ⟨rfl, n, ?_⟩
      rw [reverseLoop, if_neg hnot] at heq
      rw [← Lib.reverseLoop_reverse, ← heq]
theorem b2s_run (W : World) (b cap : Nat) (d : Array UInt8) (hH : Holds encB W b 0 d) : Sem.run Tryz.prog (convert 62 9 (.slice (some ⟨b, 0, none⟩) d.size cap)) W = .ok (.string ⟨d⟩) W := by
  have hcell : ∀ (j : Nat) u, (d.toList.map encB)[j]? = some u → W.cell? ((⟨b, 0, none⟩ : Addr).add j) = some u := by
    intro j u hj
    rw [List.getElem?_map] at hj
    cases hd : d.toList[j]? with
    | none => rw [hd] at hj; cases hj
    | some x =>
      rw [hd] at hj
      cases hj
      have hlt : j < d.size := by have := (List.getElem?_eq_some_iff.1 hd).1; simpa using this
      have := (hH j hlt).1
      have e : (⟨b, 0, none⟩ : Addr).add j = ⟨b, 0 + j, none⟩ := by unfold Addr.add; split <;> simp_all
      rw [e, this]
      have : d[j]! = x := by
        rw [getElem!_pos d j hlt]
        have h2 := List.getElem?_eq_some_iff.1 hd
        obtain ⟨_, h3⟩ := h2
        rw [← h3]
        simp
      rw [this]
  have hload := run_loadCells_list (P := Tryz.prog) W ⟨b, 0, none⟩ (d.toList.map encB) hcell
  have e1 : d.toList.map encB = (d.toList.map fun x : UInt8 => (x.toNat : Int)).map (Value.int .u8) := by rw [List.map_map]; rfl
  rw [e1] at hload
  have hl : ((d.toList.map fun x : UInt8 => (x.toNat : Int)).map (Value.int .u8)).length = d.size := by simp
  rw [hl] at hload
  have hb := run_bytesToString (P := Tryz.prog) W ⟨b, 0, none⟩ d.size cap _ hload
  have hstr : (d.toList.map fun x : UInt8 => (x.toNat : Int)).foldl (fun r n => r.push (UInt8.ofNat n.toNat)) ByteArray.empty = (⟨d⟩ : ByteArray) := by
    have hp : ∀ (l : List UInt8) (acc : ByteArray), (l.map fun x : UInt8 => (x.toNat : Int)).foldl (fun r n => r.push (UInt8.ofNat n.toNat)) acc = ⟨acc.data ++ l.toArray⟩ := by
      intro l
      induction l with
      | nil => intro acc; simp
      | cons x r ih =>
        intro acc
        simp only [List.map_cons, List.foldl_cons, Int.toNat_natCast, UInt8.ofNat_toNat]
        rw [ih]
        simp [ByteArray.push]
    rw [hp]
    simp [ByteArray.empty, ByteArray.emptyWithCapacity]
    rfl
  rw [hstr] at hb
  simp [convert, run_underlying Tryz.underlying9, run_underlying Tryz.underlying62, run_underlying Tryz.underlying5, hb]
set_option maxHeartbeats 1600000 in
set_option maxRecDepth 1000000 in
theorem turn_any (s : ByteArray) (w : World) (hs : s.size ≤ 9223372036854775807) : Calls Tryz.prog 281 #[.string s] w fun e w' => e = .returned (.string ⟨s.data.reverse⟩) ∧ Below w.heap.size w w' := by
  have hH : Holds encB (bytesWorld w 5 s) w.heap.size 0 s.data := by
    intro j hj
    rw [Nat.zero_add]
    constructor
    · rw [bytesWorld_cell w 5 s j hj]
      have : s.data[j]! = s.data.toList.getD j 0 := by
        rw [getElem!_pos s.data j hj, List.getD_eq_getElem?_getD, List.getElem?_eq_getElem (by simpa using hj)]
        simp
      rw [this]
    · have hsz : (bytesCells w 5 s).size ≥ s.size := by
        have := bytesWorld_cell w 5 s j hj
        simp only [bytesCells, Array.size_append]
        simp
      have hjs : j < s.size := hj
      simp only [World.frozen?, bytesWorld_at_new]
      have : ¬ (bytesCells w 5 s).size ≤ j := by omega
      simp [this]
  have hrn := fun w => Lib.run_convert_string_bytes (P := Tryz.prog) w 9 62 5 s Tryz.underlying9 Tryz.underlying62 Tryz.underlying5
  go_enter Tryz.func281, Tryz.ntmps281
  go_wp2_with fail
  refine (rev_bytes w.heap.size 0 _ s.data _ hH hs).mono ?_
  rintro e w2 ⟨rfl, n, rfl⟩
  have hH2 : Holds encB (putRow encB (Sort.ahead (bytesWorld w 5 s) n) w.heap.size 0 s.data.reverse) w.heap.size 0 s.data.reverse := holds_putRow encB _ _ 0 s.data _ (holds_ahead encB _ n _ 0 s.data hH) (by simp)
  have hcv := fun cap => b2s_run _ w.heap.size cap s.data.reverse hH2
  have hsz : s.data.reverse.size = s.size := by simp
  simp only [hsz] at hcv
  generalize hW : putRow encB (Sort.ahead (bytesWorld w 5 s) n) w.heap.size 0 s.data.reverse = W at *
  have hbel : Below w.heap.size w W := by
    rw [← hW]
    exact below_putRow ⟨rfl, rfl, rfl, by rw [bytesWorld_size]; omega, fun k hk => bytesWorld_at_old w 5 s k hk⟩ (Nat.le_refl _)
  clear hW
  go_wp2_with fail
  go_ret
  exact ⟨rfl, hbel⟩
theorem run_any (s cut : ByteArray) (w : World) (h1 : cut.size < 4294967281) (h2 : ∀ (j : Nat) b, cut.data.toList[j]? = some b → b.toNat < 128) (n : Nat) (hn : s.size = n + (Lib.trimLeftS s.data.toList cut.data.toList).length) (hb : n < 9223372036854775808) :
    Calls Tryz.prog 125 #[.string s, .string cut] w fun e w' => e = .returned (.int .i64 n) ∧ Below w.heap.size w w' := by
  go_enter Tryz.func125, Tryz.ntmps125
  go_wp2_with fail
  refine (RgLib.trim s cut _ h1 h2).mono ?_
  rintro e w2 ⟨rfl, hb⟩
  have e : (s.size : Int) - (Lib.trimLeftS s.data.toList cut.data.toList).length = n := by omega
  go_wp2_with fail
  go_ret
  exact ⟨rfl, hb⟩
theorem str_nil (b : Nat) (w : World) (h0 : w.cell? ⟨b, 1, none⟩ = some (.slice none 0 0)) :
    Calls Tryz.prog 49 #[.pointer (some ⟨b, 0, none⟩)] w fun e w' => e = .returned (.string ⟨#[]⟩) ∧ Below w.heap.size w w' := by
  have mixed : Tryz.prog.follows .mixedOrders = true := by kernel_rfl
  have hSD := Lib.run_unsafeSliceData_nil (P := Tryz.prog) (w := w.drew) #[62] 168 0 0
  have hUS : (Builtin.unsafeString_ #[168, 3] 9 #[.pointer none, .int .i64 0]).run Tryz.prog w.drew = .ok (.string ⟨#[]⟩) w.drew := Lib.run_unsafeString_none _ 168 3 9 none
  go_enter Tryz.func49, Tryz.ntmps49
  go_wp2
  go_region_o
  all_goals (go_wp2; go_ret; exact ⟨rfl, Below.drew (Below.refl _ _)⟩)
end Go.Proofs.TurnW
