/- Contracts of the library's functions at this program, with what lies behind. -/
import Derived.Shelf.Strings.SlTrimAscii
import Derived.Shelf.Strings.Builder1
import Derived.Test.YthifolidfjpdkaaGreatDoorShelf
import Derived.WalkKit
import Derived.Shelf.RegionOpenPlain
import Derived.Deep.LoopGhost
import Derived.Lib.Walk
import Derived.Sort.WalkB12
import Derived.Lib.SlicesMore
import Derived.Lib.ConvBytes
import Derived.Lib.OwnBridge
import Derived.Test.YthifolidfjpdkaaGreatDoorNdLib
set_option linter.unusedVariables false
set_option linter.unusedSimpArgs false
namespace Go.Proofs.RgLib
open Go.RowKit Go.Shelf
theorem trim (s cut : ByteArray) (w : World) (h1 : cut.size < 4294967281) (h2 : ∀ (j : Nat) b,cut.data.toList[j]? = some b → b.toNat < 128) :
    Calls Tryz.prog 101 #[.string s,.string cut] w fun e w' => e = .returned (.string ⟨(Lib.trimLeftS s.data.toList cut.data.toList).toArray⟩) ∧ Below w.heap.size w w' :=
  Any.strings_TrimLeft_laid Tryz.lays161 (by kernel_rfl) s cut w h1 h2
theorem Zmc : (Tryz.prog.info? 82).map (·.size) = some 2 := by kernel_rfl
theorem Zu3 : liesAt Tryz.prog Tryz.prog.depth 82 (2 / Tryz.prog.cellsOf 82) 0 82 1 = true := by kernel_rfl
set_option maxHeartbeats 1000000 in
set_option maxRecDepth 100000 in
theorem check_used (b : Nat) (w : World) (h0 : w.cell? ⟨b,0,none⟩ = some (.pointer (some ⟨b,0,none⟩))) :
    Calls Tryz.prog 47 #[.pointer (some ⟨b,0,none⟩)] w fun e w' => e = .returned (.tuple #[]) ∧ w' = w := by
  obtain ⟨j,hj,_⟩ := Option.map_eq_some_iff.1 Zmc
  go_enter Tryz.func47,Tryz.ntmps47
  go_wp2
  rw [Lib.run_neq_ptr_same w _ Tryz.underlying80 hj]
  go_wp2
  go_end0
  exact ⟨rfl,rfl⟩
set_option maxHeartbeats 1000000 in
set_option maxRecDepth 100000 in
theorem check_fresh (b : Nat) (w : World) (h0 : w.cell? ⟨b,0,none⟩ = some (.pointer none)) (hsh : w.shape? b = some (82,2)) (hfz : w.frozen? ⟨b,0,none⟩ = false) :
    Calls Tryz.prog 47 #[.pointer (some ⟨b,0,none⟩)] w fun e w' => e = .returned (.tuple #[]) ∧ w' = w.setCell ⟨b,0,none⟩ (.pointer (some ⟨b,0,none⟩)) := by
  obtain ⟨j,hj,hjs⟩ := Option.map_eq_some_iff.1 Zmc
  go_enter Tryz.func47,Tryz.ntmps47
  go_wp2
  rw [Lib.run_to_unsafe w ⟨b,0,none⟩ Tryz.underlying80 Tryz.underlying172 hj (by rw [hjs]; decide) hsh (Nat.zero_lt_succ 1)]
  simp only [Result.andThen]
  rw [Oper.upon_value]
  go_wp2
  rw [run_callFunc_extern Tryz.func77 (by kernel_rfl) (by kernel_rfl) (by kernel_rfl) (e := Extern.AbiNoEscape.same) (by kernel_rfl)]
  rw [Lib.run_noEscape]
  simp only [Result.andThen]
  rw [Oper.upon_value]
  go_wp2
  rw [Lib.run_from_unsafe w ⟨b,0,none⟩ Tryz.underlying172 Tryz.underlying80 hj hsh Zu3]
  simp only [Result.andThen]
  rw [Oper.upon_value]
  go_wp2
  go_end0
  exact ⟨rfl,rfl⟩
set_option maxHeartbeats 1000000 in
set_option maxRecDepth 100000 in
theorem str (b gb cap : Nat) (cur : Array Value) (l : List UInt8) (w : World) (h0 : l ≠ []) (c1' : w.cell? ⟨b,1,none⟩ = some (.slice (some ⟨gb,0,none⟩) l.length cap)) (hg : w.heap[gb]? = some (.cells cur 5 (0,0))) (hnc : l.length ≤ cap) (hcm : cap ≤ maxLen) (hcs : cur.size = cap * 1)
    (hx : ∀ (j : Nat) x,l[j]? = some x → w.cell? ⟨gb,j,none⟩ = some (.int .u8 x.toNat)) :
    Calls Tryz.prog 24 #[.pointer (some ⟨b,0,none⟩)] w fun e w' => e = .returned (.string ⟨l.toArray⟩) ∧ w' = w.drew.freeze ⟨gb,0,none⟩ l.length := by
  have L := Tryz.lays169
  have X := Tryz.Builder_Extra_169
  have hl0 : l.length ≠ 0 := by simpa using h0
  have c1 : w.drew.cell? ⟨b,1,none⟩ = some (.slice (some ⟨gb,0,none⟩) l.length cap) := c1'
  have hSD : (Builtin.unsafeSliceData_ #[61] 139 #[.slice (some ⟨gb,0,none⟩) l.length cap]).run Tryz.prog w.drew = .ok (.pointer (some ⟨gb,0,none⟩)) w.drew :=
    Lib.run_unsafeSliceData_row _ _ _ _ _ _ (by omega)
  have hUS : (Builtin.unsafeString_ #[139,3] 9 #[.pointer (some ⟨gb,0,none⟩),.int .i64 l.length]).run Tryz.prog w.drew = .ok (.string ⟨l.toArray⟩) (w.drew.freeze ⟨gb,0,none⟩ l.length) := by
    refine Lib.run_unsafeString_row w.drew 139 3 9 5 L.t127 X.cellsByte gb cur.size (by have hg' : w.drew.heap[gb]? = some (.cells cur 5 (0,0)) := hg; simp [World.shape?,hg']) l h0 (by omega) (by unfold maxLen at hcm; omega) ?_
    intro j x hxj
    have := hx j x hxj
    have e : (⟨gb,0,none⟩ : Addr).add j = ⟨gb,j,none⟩ := by unfold Addr.add; split <;> simp_all
    rw [e]
    exact this
  have mixed := L.mixed
  go_enter Tryz.func24,Tryz.ntmps24
  go_wp2
  go_region_o
  all_goals (go_wp2; go_ret; exact ⟨rfl,rfl⟩)
end Go.Proofs.RgLib
namespace Go.Proofs.TurnX
open Go.Shelf Go.RowKit Go.Lib Go.Sort
abbrev Zco (b : UInt8) : Value := .int .u8 (b.toNat : Int)
set_option maxHeartbeats 1600000 in
set_option maxRecDepth 1000000 in
theorem Z0i (blk off cap : Nat) (d : Array UInt8) (w : World) (hH : Holds Zco w blk off d) (hsz : d.size ≤ 9223372036854775807) :
    Calls Tryz.prog 80 #[.slice (some ⟨blk,off,none⟩) d.size cap] w fun e w' => e = .returned (.tuple #[]) ∧ ∃ n,w' = putRow Zco (Sort.ahead w n) blk off d.reverse := by
  have mixed : Tryz.prog.follows .mixedOrders = true := by kernel_rfl
  go_enter Tryz.func80,Tryz.ntmps80
  go_wp2
  go_loopg [2,3] d.size (fun k s2 s3 wr => ∃ (i jn : Nat) (jz : Int) (dk : Array UInt8) (n : Nat),s2 = .int .i64 i ∧ s3 = .int .i64 jz ∧ ((i : Int) < jz → jz = jn ∧ jn < d.size) ∧ (¬ (i : Int) < jz → ¬ i < jn) ∧ jn - i ≤ k ∧
    dk.size = d.size ∧ wr = putRow Zco (Sort.ahead w n) blk off dk ∧ reverseLoop i jn dk = reverseLoop 0 (d.size - 1) d)
  case atStart => exact ⟨0,d.size - 1,(d.size : Int) - 1,d,0,rfl,rfl,fun h => ⟨by omega,by omega⟩,fun h => by omega,by omega,rfl,(putRow_self Zco w blk off d hH).symm,rfl⟩
  case round =>
    obtain ⟨i,jn,jz,dk,n,rfl,rfl,h1,h2,hk,hds,hwr,heq⟩ := hrel
    by_cases hlt : (i : Int) < jz
    · obtain ⟨rfl,hjn⟩ := h1 hlt
      have hij : i < jn := by omega
      have hHk : Holds Zco wr blk off dk := by rw [hwr]; exact holds_putRow Zco _ blk off d dk (holds_ahead Zco w n blk off d hH) hds
      obtain ⟨ci,fi⟩ := hHk i (by omega)
      obtain ⟨cj,fj⟩ := hHk jn (by omega)
      have A : Aside (wr = putRow Zco (Sort.ahead w n) blk off dk) := hwr
      clear hwr hHk hH h1 h2
      go_wp2_with fail
      go_region_o
      go_wp2
      go_roundg (jn - 1 - (i + 1))
      case measure => omega
      case rel =>
        rw [reverseLoop,if_pos hij] at heq
        exact ⟨i + 1,jn - 1,(jn : Int) - 1,swp dk i jn,n + 1,by simp,rfl,fun h => ⟨by omega,by omega⟩,fun h => by omega,Nat.le_refl _,by rw [size_swp]; exact hds,
          swap_world Zco (by omega) (by omega) A.out (by first | rfl | simp [Zco,getElem!_pos,show jn < dk.size by omega]) (by first | rfl | simp [Zco,getElem!_pos,show i < dk.size by omega]),heq⟩
    · have hnot := h2 hlt
      go_wp2
      go_end0
      refine ⟨rfl,n, ?_⟩
      rw [reverseLoop,if_neg hnot] at heq
      rw [← Lib.reverseLoop_reverse,← heq]
theorem Z9c (W : World) (b cap : Nat) (d : Array UInt8) (hH : Holds Zco W b 0 d) : Sem.run Tryz.prog (convert 61 9 (.slice (some ⟨b,0,none⟩) d.size cap)) W = .ok (.string ⟨d⟩) W := by
  have hcell : ∀ (j : Nat) u,(d.toList.map Zco)[j]? = some u → W.cell? ((⟨b,0,none⟩ : Addr).add j) = some u := by
    intro j u hj
    rw [List.getElem?_map] at hj
    cases hd : d.toList[j]? with
    | none => rw [hd] at hj; cases hj
    | some x =>
      rw [hd] at hj
      cases hj
      have hlt : j < d.size := by have := (List.getElem?_eq_some_iff.1 hd).1; simpa using this
      have := (hH j hlt).1
      have e : (⟨b,0,none⟩ : Addr).add j = ⟨b,0 + j,none⟩ := by unfold Addr.add; split <;> simp_all
      rw [e,this]
      have : d[j]! = x := by
        rw [getElem!_pos d j hlt]
        have h2 := List.getElem?_eq_some_iff.1 hd
        obtain ⟨_,h3⟩ := h2
        rw [← h3]
        simp
      rw [this]
  have hload := run_loadCells_list (P := Tryz.prog) W ⟨b,0,none⟩ (d.toList.map Zco) hcell
  have e1 : d.toList.map Zco = (d.toList.map fun x : UInt8 => (x.toNat : Int)).map (Value.int .u8) := by rw [List.map_map]; rfl
  rw [e1] at hload
  have hl : ((d.toList.map fun x : UInt8 => (x.toNat : Int)).map (Value.int .u8)).length = d.size := by simp
  rw [hl] at hload
  have hb := run_bytesToString (P := Tryz.prog) W ⟨b,0,none⟩ d.size cap _ hload
  have hstr : (d.toList.map fun x : UInt8 => (x.toNat : Int)).foldl (fun r n => r.push (UInt8.ofNat n.toNat)) ByteArray.empty = (⟨d⟩ : ByteArray) := by
    have hp : ∀ (l : List UInt8) (acc : ByteArray),(l.map fun x : UInt8 => (x.toNat : Int)).foldl (fun r n => r.push (UInt8.ofNat n.toNat)) acc = ⟨acc.data ++ l.toArray⟩ := by
      intro l
      induction l with
      | nil => intro acc; simp
      | cons x r ih =>
        intro acc
        simp only [List.map_cons,List.foldl_cons,Int.toNat_natCast,UInt8.ofNat_toNat]
        rw [ih]
        simp [ByteArray.push]
    rw [hp]
    simp [ByteArray.empty,ByteArray.emptyWithCapacity]
    rfl
  rw [hstr] at hb
  simp [convert,run_underlying Tryz.underlying9,run_underlying Tryz.underlying61,run_underlying Tryz.underlying5,hb]
set_option maxHeartbeats 1600000 in
set_option maxRecDepth 1000000 in
theorem turn_any (s : ByteArray) (w : World) (hs : s.size ≤ 9223372036854775807) : Calls Tryz.prog 227 #[.string s] w fun e w' => e = .returned (.string ⟨s.data.reverse⟩) ∧ Below w.heap.size w w' := by
  have hH : Holds Zco (bytesWorld w 5 s) w.heap.size 0 s.data := by
    intro j hj
    rw [Nat.zero_add]
    constructor
    · rw [bytesWorld_cell w 5 s j hj]
      have : s.data[j]! = s.data.toList.getD j 0 := by
        rw [getElem!_pos s.data j hj,List.getD_eq_getElem?_getD,List.getElem?_eq_getElem (by simpa using hj)]
        simp
      rw [this]
    · have hsz : (bytesCells w 5 s).size ≥ s.size := by
        have := bytesWorld_cell w 5 s j hj
        simp only [bytesCells,Array.size_append]
        simp
      have hjs : j < s.size := hj
      simp only [World.frozen?,bytesWorld_at_new]
      have : ¬ (bytesCells w 5 s).size ≤ j := by omega
      simp [this]
  have hrn := fun w => Lib.run_convert_string_bytes (P := Tryz.prog) w 9 61 5 s Tryz.underlying9 Tryz.underlying61 Tryz.underlying5
  go_enter Tryz.func227,Tryz.ntmps227
  go_wp2_with fail
  refine (Z0i w.heap.size 0 _ s.data _ hH hs).mono ?_
  rintro e w2 ⟨rfl,n,rfl⟩
  have hH2 : Holds Zco (putRow Zco (Sort.ahead (bytesWorld w 5 s) n) w.heap.size 0 s.data.reverse) w.heap.size 0 s.data.reverse := holds_putRow Zco _ _ 0 s.data _ (holds_ahead Zco _ n _ 0 s.data hH) (by simp)
  have hcv := fun cap => Z9c _ w.heap.size cap s.data.reverse hH2
  have hsz : s.data.reverse.size = s.size := by simp
  simp only [hsz] at hcv
  generalize hW : putRow Zco (Sort.ahead (bytesWorld w 5 s) n) w.heap.size 0 s.data.reverse = W at *
  have hbel : Below w.heap.size w W := by
    rw [← hW]
    exact below_putRow ⟨rfl,rfl,rfl,by rw [bytesWorld_size]; omega,fun k hk => bytesWorld_at_old w 5 s k hk⟩ (Nat.le_refl _)
  clear hW
  go_wp2_with fail
  go_ret
  exact ⟨rfl,hbel⟩
end Go.Proofs.TurnX
