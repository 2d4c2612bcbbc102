/- Functions of the program that are given by hand: what they do in a world. -/
import Derived.Test.YtbknmljjoahajaaGreatDoorLibW
import Derived.Shelf.RegionOpenPlain
import Derived.WalkKit
import Derived.Deep.LoopGhost
import Derived.Lib.Walk
import Derived.Sort.WalkB12
import Derived.Lib.SlicesMore
import Derived.Lib.ConvBytes
import Derived.Lib.OwnBridge
import Derived.Test.YtbknmljjoahajaaGreatDoorNwLib
import Derived.Test.YtbknmljjoahajaaGreatDoorNwLib0
import Derived.Test.YtbknmljjoahajaaGreatDoorRangeE
import Derived.Test.YtbknmljjoahajaaGreatDoorRangeV
namespace Go.Proofs.TurnW
open Go.Shelf Go.RowKit Go.Lib Go.Sort
abbrev encB (b : UInt8) : Value := .int .u8 (b.toNat : Int)
set_option maxHeartbeats 1600000 in
set_option maxRecDepth 1000000 in
theorem rev_bytes (blk off cap : Nat) (d : Array UInt8) (w : World) (hH : Holds encB w blk off d) (hsz : d.size ≤ 9223372036854775807) :
    Calls Tryz.prog 120 #[.slice (some ⟨blk, off, none⟩) d.size cap] w fun e w' => e = .returned (.tuple #[]) ∧ ∃ n, w' = putRow encB (Sort.ahead w n) blk off d.reverse := by
  have mixed : Tryz.prog.follows .mixedOrders = true := by kernel_rfl
  go_enter Tryz.func120, Tryz.ntmps120
  go_wp2
  go_loopg [2, 3] d.size (fun k s2 s3 wr => ∃ (i jn : Nat) (jz : Int) (dk : Array UInt8) (n : Nat), s2 = .int .i64 i ∧ s3 = .int .i64 jz ∧ ((i : Int) < jz → jz = jn ∧ jn < d.size) ∧ (¬ (i : Int) < jz → ¬ i < jn) ∧ jn - i ≤ k ∧
    dk.size = d.size ∧ wr = putRow encB (Sort.ahead w n) blk off dk ∧ reverseLoop i jn dk = reverseLoop 0 (d.size - 1) d)
  case atStart => exact ⟨0, d.size - 1, (d.size : Int) - 1, d, 0, rfl, rfl, fun h => ⟨by omega, by omega⟩, fun h => by omega, by omega, rfl, (putRow_self encB w blk off d hH).symm, rfl⟩
  case round =>
    obtain ⟨i, jn, jz, dk, n, rfl, rfl, h1, h2, hk, hds, hwr, heq⟩ := hrel
    by_cases hlt : (i : Int) < jz
    · obtain ⟨rfl, hjn⟩ := h1 hlt
      have hij : i < jn := by omega
      have hHk : Holds encB wr blk off dk := by rw [hwr]; exact holds_putRow encB _ blk off d dk (holds_ahead encB w n blk off d hH) hds
      obtain ⟨ci, fi⟩ := hHk i (by omega)
      obtain ⟨cj, fj⟩ := hHk jn (by omega)
      have A : Aside (wr = putRow encB (Sort.ahead w n) blk off dk) := hwr
      clear hwr hHk hH h1 h2
      go_wp2_with fail
      go_region_o
      go_wp2
      go_roundg (jn - 1 - (i + 1))
      case measure => omega
      case rel =>
        rw [reverseLoop, if_pos hij] at heq
        exact ⟨i + 1, jn - 1, (jn : Int) - 1, swp dk i jn, n + 1, by simp, rfl, fun h => ⟨by omega, by omega⟩, fun h => by omega, Nat.le_refl _, by rw [size_swp]; exact hds,
          swap_world encB (by omega) (by omega) A.out (by first | rfl | simp [encB, getElem!_pos, show jn < dk.size by omega]) (by first | rfl | simp [encB, getElem!_pos, show i < dk.size by omega]), heq⟩
    · have hnot := h2 hlt
      go_wp2
      go_end0
      refine ⟨rfl, n, ?_⟩
      rw [reverseLoop, if_neg hnot] at heq
      rw [← Lib.reverseLoop_reverse, ← heq]
theorem b2s_run (W : World) (b cap : Nat) (d : Array UInt8) (hH : Holds encB W b 0 d) : Sem.run Tryz.prog (convert 62 9 (.slice (some ⟨b, 0, none⟩) d.size cap)) W = .ok (.string ⟨d⟩) W := by
  have hcell : ∀ (j : Nat) u, (d.toList.map encB)[j]? = some u → W.cell? ((⟨b, 0, none⟩ : Addr).add j) = some u := by
    intro j u hj
    rw [List.getElem?_map] at hj
    cases hd : d.toList[j]? with
    | none => rw [hd] at hj; cases hj
    | some x =>
      rw [hd] at hj
      cases hj
      have hlt : j < d.size := by have := (List.getElem?_eq_some_iff.1 hd).1; simpa using this
      have := (hH j hlt).1
      have e : (⟨b, 0, none⟩ : Addr).add j = ⟨b, 0 + j, none⟩ := by unfold Addr.add; split <;> simp_all
      rw [e, this]
      have : d[j]! = x := by
        rw [getElem!_pos d j hlt]
        have h2 := List.getElem?_eq_some_iff.1 hd
        obtain ⟨_, h3⟩ := h2
        rw [← h3]
        simp
      rw [this]
  have hload := run_loadCells_list (P := Tryz.prog) W ⟨b, 0, none⟩ (d.toList.map encB) hcell
  have e1 : d.toList.map encB = (d.toList.map fun x : UInt8 => (x.toNat : Int)).map (Value.int .u8) := by rw [List.map_map]; rfl
  rw [e1] at hload
  have hl : ((d.toList.map fun x : UInt8 => (x.toNat : Int)).map (Value.int .u8)).length = d.size := by simp
  rw [hl] at hload
  have hb := run_bytesToString (P := Tryz.prog) W ⟨b, 0, none⟩ d.size cap _ hload
  have hstr : (d.toList.map fun x : UInt8 => (x.toNat : Int)).foldl (fun r n => r.push (UInt8.ofNat n.toNat)) ByteArray.empty = (⟨d⟩ : ByteArray) := by
    have hp : ∀ (l : List UInt8) (acc : ByteArray), (l.map fun x : UInt8 => (x.toNat : Int)).foldl (fun r n => r.push (UInt8.ofNat n.toNat)) acc = ⟨acc.data ++ l.toArray⟩ := by
      intro l
      induction l with
      | nil => intro acc; simp
      | cons x r ih =>
        intro acc
        simp only [List.map_cons, List.foldl_cons, Int.toNat_natCast, UInt8.ofNat_toNat]
        rw [ih]
        simp [ByteArray.push]
    rw [hp]
    simp [ByteArray.empty, ByteArray.emptyWithCapacity]
    rfl
  rw [hstr] at hb
  simp [convert, run_underlying Tryz.underlying9, run_underlying Tryz.underlying62, run_underlying Tryz.underlying5, hb]
set_option maxHeartbeats 1600000 in
set_option maxRecDepth 1000000 in
theorem turn_any (s : ByteArray) (w : World) (hs : s.size ≤ 9223372036854775807) : Calls Tryz.prog 281 #[.string s] w fun e w' => e = .returned (.string ⟨s.data.reverse⟩) ∧ Below w.heap.size w w' := by
  have hH : Holds encB (bytesWorld w 5 s) w.heap.size 0 s.data := by
    intro j hj
    rw [Nat.zero_add]
    constructor
    · rw [bytesWorld_cell w 5 s j hj]
      have : s.data[j]! = s.data.toList.getD j 0 := by
        rw [getElem!_pos s.data j hj, List.getD_eq_getElem?_getD, List.getElem?_eq_getElem (by simpa using hj)]
        simp
      rw [this]
    · have hsz : (bytesCells w 5 s).size ≥ s.size := by
        have := bytesWorld_cell w 5 s j hj
        simp only [bytesCells, Array.size_append]
        simp
      have hjs : j < s.size := hj
      simp only [World.frozen?, bytesWorld_at_new]
      have : ¬ (bytesCells w 5 s).size ≤ j := by omega
      simp [this]
  have hrn := fun w => Lib.run_convert_string_bytes (P := Tryz.prog) w 9 62 5 s Tryz.underlying9 Tryz.underlying62 Tryz.underlying5
  go_enter Tryz.func281, Tryz.ntmps281
  go_wp2_with fail
  refine (rev_bytes w.heap.size 0 _ s.data _ hH hs).mono ?_
  rintro e w2 ⟨rfl, n, rfl⟩
  have hH2 : Holds encB (putRow encB (Sort.ahead (bytesWorld w 5 s) n) w.heap.size 0 s.data.reverse) w.heap.size 0 s.data.reverse := holds_putRow encB _ _ 0 s.data _ (holds_ahead encB _ n _ 0 s.data hH) (by simp)
  have hcv := fun cap => b2s_run _ w.heap.size cap s.data.reverse hH2
  have hsz : s.data.reverse.size = s.size := by simp
  simp only [hsz] at hcv
  generalize hW : putRow encB (Sort.ahead (bytesWorld w 5 s) n) w.heap.size 0 s.data.reverse = W at *
  have hbel : Below w.heap.size w W := by
    rw [← hW]
    exact below_putRow ⟨rfl, rfl, rfl, by rw [bytesWorld_size]; omega, fun k hk => bytesWorld_at_old w 5 s k hk⟩ (Nat.le_refl _)
  clear hW
  go_wp2_with fail
  go_ret
  exact ⟨rfl, hbel⟩
theorem run_any (s cut : ByteArray) (w : World) (h1 : cut.size < 4294967281) (h2 : ∀ (j : Nat) b, cut.data.toList[j]? = some b → b.toNat < 128) (n : Nat) (hn : s.size = n + (Lib.trimLeftS s.data.toList cut.data.toList).length) (hb : n < 9223372036854775808) :
    Calls Tryz.prog 125 #[.string s, .string cut] w fun e w' => e = .returned (.int .i64 n) ∧ Below w.heap.size w w' := by
  go_enter Tryz.func125, Tryz.ntmps125
  go_wp2_with fail
  refine (RgLib.trim s cut _ h1 h2).mono ?_
  rintro e w2 ⟨rfl, hb⟩
  have e : (s.size : Int) - (Lib.trimLeftS s.data.toList cut.data.toList).length = n := by omega
  go_wp2_with fail
  go_ret
  exact ⟨rfl, hb⟩
theorem str_nil (b : Nat) (w : World) (h0 : w.cell? ⟨b, 1, none⟩ = some (.slice none 0 0)) :
    Calls Tryz.prog 49 #[.pointer (some ⟨b, 0, none⟩)] w fun e w' => e = .returned (.string ⟨#[]⟩) ∧ Below w.heap.size w w' := by
  have mixed : Tryz.prog.follows .mixedOrders = true := by kernel_rfl
  have hSD := Lib.run_unsafeSliceData_nil (P := Tryz.prog) (w := w.drew) #[62] 168 0 0
  have hUS : (Builtin.unsafeString_ #[168, 3] 9 #[.pointer none, .int .i64 0]).run Tryz.prog w.drew = .ok (.string ⟨#[]⟩) w.drew := Lib.run_unsafeString_none _ 168 3 9 none
  go_enter Tryz.func49, Tryz.ntmps49
  go_wp2
  go_region_o
  all_goals (go_wp2; go_ret; exact ⟨rfl, Below.drew (Below.refl _ _)⟩)
end Go.Proofs.TurnW
namespace Go.Abs
namespace Run
open Go.Proofs Go.RowKit
theorem str_rev (s : ByteArray) : (strD s).reverse = strD ⟨s.data.reverse⟩ := by simp [strD]
theorem repL_eq (s : List UInt8) : ∀ c, repL (s.map (·.toNat)) c = (Lib.repeatL s c).map (·.toNat)
  | 0 => rfl
  | c + 1 => by simp only [repL, Lib.repeatL, List.map_append, repL_eq s c]
theorem isPre_eq : ∀ (s p : List UInt8), isPre (s.map (·.toNat)) (p.map (·.toNat)) = Lib.hasPrefix s p
  | s, [] => by cases s <;> rfl
  | [], b :: p => rfl
  | a :: s, b :: p => by
    have ih := isPre_eq s p
    unfold Lib.hasPrefix at ih ⊢
    simp only [List.map_cons, isPre, ih, List.isPrefixOf]
    congr 1
    by_cases e : a = b
    · subst e; simp
    · have : ¬ a.toNat = b.toNat := fun h => e (UInt8.toNat_inj.1 h)
      have h1 : Nat.beq a.toNat b.toNat = false := by
        cases hb : Nat.beq a.toNat b.toNat with
        | false => rfl
        | true => exact absurd (Nat.eq_of_beq_eq_true hb) this
      rw [h1]
      have : ¬ b = a := fun h => e h.symm
      simp [this]
theorem countIn_eq (cut : List Nat) : ∀ (s : List Nat) (n : Nat), countIn cut s n + (ltrim cut s).length = n + s.length
  | [], n => by simp [countIn, ltrim]
  | b :: r, n => by
    cases h : memN b cut with
    | true =>
      have ih := countIn_eq cut r (Nat.succ n)
      simp only [countIn, ltrim, h, cond_true, List.length_cons]
      omega
    | false => simp [countIn, ltrim, h]
theorem below_lib {P : Program} {glob : Nat → Option (List D)} {f : Nat} {lf : List D → H → O D} (hent : ∀ args w, (callFunc f args).run P w = .ok (.enter f args) w)
    (hl : ∀ ds h p d h', lf ds h = .mk p d h' → p = false ∧ h' = h ∧ ∀ g (args : Array Value), VRels g ds args.toList → ∀ w, ∃ v, VRel g d v ∧ Calls P f args w fun e w' => e = .returned v ∧ Below w.heap.size w w') : LibSim P f lf glob :=
  libsim_below fun ds h p d h' hrun => by
    obtain ⟨h1, h2, h3⟩ := hl ds h p d h' hrun
    exact ⟨h1, h2, fun top g w args hr hargs => ⟨hent args w, h3 g args hargs w⟩⟩
theorem below_grow {lf : List D → H → O D} (hl : ∀ ds h p d h', lf ds h = .mk p d h' → h' = h) : ∀ ds h, Ogrow h (lf ds h) := fun ds h => ogrow_same fun p d h' ho => hl ds h p d h' ho
theorem libTurn_same {ds : List D} {h h' : H} {p : Bool} {d : D} (ho : libTurn ds h = .mk p d h') : p = false ∧ h' = h ∧ ∃ s, ds = [.str s] ∧ d = .str s.reverse ∧ s.length ≤ 9223372036854775807 := by
  unfold libTurn at ho
  split at ho
  · rename_i s
    cases hq : Nat.ble s.length 9223372036854775807 with
    | false => rw [hq] at ho; cases p <;> cases ho
    | true =>
      rw [hq] at ho
      cases p with
      | true => cases ho
      | false => cases ho; exact ⟨rfl, rfl, s, rfl, rfl, Nat.le_of_ble_eq_true hq⟩
  · cases p <;> cases ho
theorem sim281 : LibSim Tryz.prog 281 libTurn glob := below_lib (enters_of Tryz.func281 (by kernel_rfl) rfl) fun ds h p d h' ho => by
  obtain ⟨h1, h2, s, rfl, rfl, h3⟩ := libTurn_same ho
  refine ⟨h1, h2, fun g args hargs w => ?_⟩
  obtain ⟨v1, rfl, r1⟩ := hargs.one'
  obtain ⟨b, rfl, rfl⟩ := r1.str'
  refine ⟨_, ?_, TurnW.turn_any b w (by simpa [strD] using h3)⟩
  rw [str_rev]
  exact .str _
theorem libRepeat_same {ds : List D} {h h' : H} {p : Bool} {d : D} (ho : libRepeat ds h = .mk p d h') : p = false ∧ h' = h ∧ ∃ s k c, ds = [.str s, .int k (.ofNat c)] ∧ k = .i64 ∧ d = .str (repL s c) ∧ s.length * c ≤ 140737488355328 ∧ c ≤ 9223372036854775807 := by
  unfold libRepeat at ho
  split at ho
  · rename_i s c
    cases hq : Nat.ble (s.length * c) 140737488355328 && Nat.ble c 9223372036854775807 with
    | false => rw [hq] at ho; cases p <;> cases ho
    | true =>
      rw [hq] at ho
      simp only [Bool.and_eq_true] at hq
      cases p with
      | true => cases ho
      | false => cases ho; exact ⟨rfl, rfl, s, _, c, rfl, rfl, rfl, Nat.le_of_ble_eq_true hq.1, Nat.le_of_ble_eq_true hq.2⟩
  · cases p <;> cases ho
theorem sim87 : LibSim Tryz.prog 87 libRepeat glob := below_lib (enters_of Tryz.func87 (by kernel_rfl) rfl) fun ds h p d h' ho => by
  obtain ⟨h1, h2, s, k, c, rfl, rfl, rfl, h3, h4⟩ := libRepeat_same ho
  refine ⟨h1, h2, fun g args hargs w => ?_⟩
  obtain ⟨v1, v2, rfl, r1, r2⟩ := hargs.two'
  obtain ⟨b, rfl, rfl⟩ := r1.str'
  rw [r2.int']
  refine ⟨_, ?_, Tryz.strings_Repeat b c w h4 (by simpa [strD] using h3)⟩
  have := repL_eq b.data.toList c
  simp only [strD]
  rw [this]
  exact .str ⟨(Lib.repeatL b.data.toList c).toArray⟩
theorem libPrefix_same {ds : List D} {h h' : H} {p : Bool} {d : D} (ho : libPrefix ds h = .mk p d h') : p = false ∧ h' = h ∧ ∃ s q, ds = [.str s, .str q] ∧ d = .v (.bool (isPre s q)) := by
  unfold libPrefix at ho
  split at ho
  · rename_i s q
    cases p with
    | true => cases ho
    | false => cases ho; exact ⟨rfl, rfl, s, q, rfl, rfl⟩
  · cases p <;> cases ho
theorem pre_sim {f : Nat} (hent : ∀ args w, (callFunc f args).run Tryz.prog w = .ok (.enter f args) w) (hc : ∀ (s p : ByteArray) (w : World), Calls Tryz.prog f #[.string s, .string p] w fun e w' => e = .returned (.bool (Lib.hasPrefix s.data.toList p.data.toList)) ∧ w' = w) : LibSim Tryz.prog f libPrefix glob :=
  below_lib hent fun ds h p d h' ho => by
    obtain ⟨h1, h2, s, q, rfl, rfl⟩ := libPrefix_same ho
    refine ⟨h1, h2, fun g args hargs w => ?_⟩
    obtain ⟨v1, v2, rfl, r1, r2⟩ := hargs.two'
    obtain ⟨b, rfl, rfl⟩ := r1.str'
    obtain ⟨c, rfl, rfl⟩ := r2.str'
    refine ⟨_, ?_, (hc b c w).mono fun e w' he => ⟨he.1, by rw [he.2]; exact Below.refl _ _⟩⟩
    simp only [strD, isPre_eq]
    exact .v _
theorem sim122 : LibSim Tryz.prog 122 libPrefix glob := pre_sim (enters_of Tryz.func122 (by kernel_rfl) rfl) Tryz.strings_HasPrefix
theorem sim159 : LibSim Tryz.prog 159 libPrefix glob := pre_sim (enters_of Tryz.func159 (by kernel_rfl) rfl) Tryz.stringslite_HasPrefix
theorem libRunN_same {ds : List D} {h h' : H} {p : Bool} {d : D} (ho : libRunN ds h = .mk p d h') : p = false ∧ h' = h ∧ ∃ s cut, ds = [.str s, .str cut] ∧ d = .int .i64 (.ofNat (countIn cut s 0)) ∧ ascii cut = true ∧ cut.length < 4294967281 ∧ countIn cut s 0 < 9223372036854775808 := by
  unfold libRunN at ho
  split at ho
  · rename_i s cut
    cases hq : ascii cut && Nat.blt cut.length 4294967281 && Nat.blt (countIn cut s 0) 9223372036854775808 with
    | false => rw [hq] at ho; cases p <;> cases ho
    | true =>
      rw [hq] at ho
      simp only [Bool.and_eq_true] at hq
      cases p with
      | true => cases ho
      | false => cases ho; exact ⟨rfl, rfl, s, cut, rfl, rfl, hq.1.1, Nat.le_of_ble_eq_true hq.1.2, Nat.le_of_ble_eq_true hq.2⟩
  · cases p <;> cases ho
theorem sim125 : LibSim Tryz.prog 125 libRunN glob := below_lib (enters_of Tryz.func125 (by kernel_rfl) rfl) fun ds h p d h' ho => by
  obtain ⟨h1, h2, s, cut, rfl, rfl, h3, h4, h5⟩ := libRunN_same ho
  refine ⟨h1, h2, fun g args hargs w => ?_⟩
  obtain ⟨v1, v2, rfl, r1, r2⟩ := hargs.two'
  obtain ⟨b, rfl, rfl⟩ := r1.str'
  obtain ⟨c, rfl, rfl⟩ := r2.str'
  have e := countIn_eq (strD c) (strD b) 0
  have e2 := ltrim_eq c.data.toList b.data.toList
  have e3 : (ltrim (strD c) (strD b)).length = (Lib.trimLeftS b.data.toList c.data.toList).length := by
    show (ltrim (c.data.toList.map (·.toNat)) (b.data.toList.map (·.toNat))).length = _
    rw [e2, List.length_map]
  refine ⟨_, ?_, TurnW.run_any b c w (by simpa [strD] using h4) (ascii_eq h3) (countIn (strD c) (strD b) 0) (by rw [← e3, e]; simp [strD]) h5⟩
  exact .int _ _
theorem sim49 : LibSim Tryz.prog 49 (libString0 5) glob := by
  have hold : LibSim Tryz.prog 49 (libString 5) glob := libString_sim (by kernel_rfl) (enters_of Tryz.func49 (by kernel_rfl) rfl) RgLib.str
  intro ds h p d h' hrun top g w args htop hr hglob hargs
  unfold libString0 at hrun
  split at hrun
  · rename_i l
    split at hrun
    · rename_i hc
      cases p with
      | true => cases hrun
      | false =>
        cases hrun
        obtain ⟨v1, rfl, r1⟩ := hargs.one'
        cases r1 with
        | ptr hbl =>
          rename_i b
          refine .inl ⟨enters_of Tryz.func49 (by kernel_rfl) rfl _ _, (TurnW.str_nil b w ?_).mono ?_⟩
          · unfold readCells at hc
            simp only at hc
            split at hc
            · rename_i ty cs hm
              obtain ⟨b', ob, hb', hob, hlies⟩ := hr.obj l _ hm (by intro n e hh; cases hh)
              rw [hbl] at hb'
              cases hb'
              have hcs : cs[1]? = some (.v (.slice none 0 0)) := by
                simp only [Bool.cond_eq_ite] at hc
                split at hc
                · have h0 := congrArg (fun o : Option (List D) => o.bind fun l => l[0]?) hc
                  simpa using h0
                · cases hc
              cases hlies with
              | cells hvs =>
                rename_i c
                obtain ⟨v, e, r⟩ := hvs.some hcs
                cases r
                simp only [World.cell?, hob]
                simpa using e
            · cases hc
          · rintro e w' ⟨rfl, hb⟩
            obtain ⟨he, hr'⟩ := hr.below hb
            exact ⟨_, rfl, g, he, hr', .str ⟨#[]⟩⟩
    · exact hold _ h p d h' hrun top g w args htop hr hglob hargs
  · cases p <;> cases hrun
theorem last2_eq (nm : Nat → ByteArray) (z : Nat → Int) (s : ByteArray) : ∀ k, Rg.last nm z s k = last2 nm z s k
  | 0 => rfl
  | k + 1 => by simp only [Rg.last, last2, last2_eq nm z s k]
theorem last3_eq (nm : Nat → ByteArray) (z y : Nat → Int) (s : ByteArray) : ∀ k, Rg2.last nm z y s k = last3 nm z y s k
  | 0 => rfl
  | k + 1 => by simp only [Rg2.last, last3, last3_eq nm z y s k]
theorem sim297 : LibSim Tryz.prog 297 (libExt Tryz.prog 297) glob := libExt_sim 297
theorem sim163 : LibSim Tryz.prog 163 libTrim glob := libTrim_sim (enters_of Tryz.func163 (by kernel_rfl) rfl) RgLib.trim
theorem sim84 : LibSim Tryz.prog 84 (libCheck 96) glob := libCheck_sim (enters_of Tryz.func84 (by kernel_rfl) rfl) RgLib.check_fresh RgLib.check_used
theorem sim384 : LibSim Tryz.prog 384 libName glob := libName_sim (enters_of Tryz.func384 (by kernel_rfl) rfl) fun rb ro a len cap nm y z s w hl hv hI => by
  have := callsIn_wide.1 (Rg2.name_in Fence.wide 4 trivial trivial trivial trivial rfl (Nat.le_refl _) rb ro a len cap nm y z s hl w hv hI)
  simp only [last3_eq] at this
  exact this
theorem sim353 : LibSim Tryz.prog 353 libGet glob := libGet_sim (enters_of Tryz.func353 (by kernel_rfl) rfl) fun a len cap nm z s w hl hI => by
  have := callsIn_wide.1 (Rg.Get_in Fence.wide 3 trivial trivial trivial rfl (Nat.le_refl _) a len cap nm z s hl w hI)
  simp only [last2_eq] at this
  exact this
theorem bif_some {α : Type} {c : Bool} {a x : α} {o : Option α} (h : (bif c then some a else o) = some x) : (c = true ∧ a = x) ∨ o = some x := by
  cases c with
  | true => exact .inl ⟨rfl, by simpa using h⟩
  | false => exact .inr h
theorem libs0_sim (f : Nat) (lf : List D → H → O D) (h : libs0 f = some lf) : LibSim Tryz.prog f lf glob := by
  unfold libs0 at h
  rcases bif_some h with ⟨hf, rfl⟩ | h
  · rw [Nat.eq_of_beq_eq_true hf]; exact sim163
  rcases bif_some h with ⟨hf, rfl⟩ | h
  · rw [Nat.eq_of_beq_eq_true hf]; exact sim122
  rcases bif_some h with ⟨hf, rfl⟩ | h
  · rw [Nat.eq_of_beq_eq_true hf]; exact sim125
  rcases bif_some h with ⟨hf, rfl⟩ | h
  · rw [Nat.eq_of_beq_eq_true hf]; exact sim159
  rcases bif_some h with ⟨hf, rfl⟩ | h
  · rw [Nat.eq_of_beq_eq_true hf]; exact sim297
  rcases bif_some h with ⟨hf, rfl⟩ | h
  · rw [Nat.eq_of_beq_eq_true hf]; exact sim49
  rcases bif_some h with ⟨hf, rfl⟩ | h
  · rw [Nat.eq_of_beq_eq_true hf]; exact sim84
  rcases bif_some h with ⟨hf, rfl⟩ | h
  · rw [Nat.eq_of_beq_eq_true hf]; exact sim281
  rcases bif_some h with ⟨hf, rfl⟩ | h
  · rw [Nat.eq_of_beq_eq_true hf]; exact sim87
  rcases bif_some h with ⟨hf, rfl⟩ | h
  · rw [Nat.eq_of_beq_eq_true hf]; exact sim353
  rcases bif_some h with ⟨hf, rfl⟩ | h
  · rw [Nat.eq_of_beq_eq_true hf]; exact sim384
  cases h
theorem libString0_grow : ∀ ds h, Ogrow h (libString0 5 ds h) := fun ds h => by
  unfold libString0
  split
  · split
    · exact ogrow_same fun p d h' ho => by cases p <;> cases ho; rfl
    · exact libString_grow 5 _ _
  · exact ogrow_same fun p d h' ho => by cases p <;> cases ho
theorem libs0_grow (f : Nat) (lf : List D → H → O D) (h : libs0 f = some lf) : ∀ ds h, Ogrow h (lf ds h) := by
  unfold libs0 at h
  rcases bif_some h with ⟨hf, rfl⟩ | h
  · exact libTrim_grow
  rcases bif_some h with ⟨hf, rfl⟩ | h
  · exact below_grow fun ds h p d h' ho => (libPrefix_same ho).2.1
  rcases bif_some h with ⟨hf, rfl⟩ | h
  · exact below_grow fun ds h p d h' ho => (libRunN_same ho).2.1
  rcases bif_some h with ⟨hf, rfl⟩ | h
  · exact below_grow fun ds h p d h' ho => (libPrefix_same ho).2.1
  rcases bif_some h with ⟨hf, rfl⟩ | h
  · exact libExt_grow 297
  rcases bif_some h with ⟨hf, rfl⟩ | h
  · exact libString0_grow
  rcases bif_some h with ⟨hf, rfl⟩ | h
  · exact libCheck_grow 96
  rcases bif_some h with ⟨hf, rfl⟩ | h
  · exact below_grow fun ds h p d h' ho => (libTurn_same ho).2.1
  rcases bif_some h with ⟨hf, rfl⟩ | h
  · exact below_grow fun ds h p d h' ho => (libRepeat_same ho).2.1
  rcases bif_some h with ⟨hf, rfl⟩ | h
  · exact libGet_grow
  rcases bif_some h with ⟨hf, rfl⟩ | h
  · exact libName_grow
  cases h
theorem follows' : Tryz.prog.follows .mixedOrders = true := by kernel_rfl
theorem told0 : Told Tryz.prog glob env0 := told Tryz.prog glob libs0 follows' libs0_sim libs0_grow
theorem glob_tree : ∀ i cs, glob i = some cs → ∀ d ∈ cs, Tree d := by
  intro i cs hi
  unfold glob at hi
  rcases bif_some hi with ⟨_, rfl⟩ | hi
  · exact allTree_mem (P := Tryz.prog) (k := 2) (by kernel_rfl)
  rcases bif_some hi with ⟨_, rfl⟩ | hi
  · exact allTree_mem (P := Tryz.prog) (k := 2) (by kernel_rfl)
  cases hi
theorem told_more {libs : Nat → Option (List D → H → O D)} (ht : Told Tryz.prog glob (envOf Tryz.prog glob libs)) {k : Nat} {ds : List D} {t : D} (hs : LibSim Tryz.prog k (libRun ds t) glob) :
    Told Tryz.prog glob (envOf Tryz.prog glob fun f => bif Nat.beq f k then some (libRun ds t) else libs f) := by
  refine told Tryz.prog glob _ follows' (fun f lf h => ?_) (fun f lf h => ?_)
  · rcases bif_some h with ⟨hf, rfl⟩ | h
    · rw [Nat.eq_of_beq_eq_true hf]; exact hs
    · exact ht.lib f lf h
  · rcases bif_some h with ⟨hf, rfl⟩ | h
    · exact libRun_grow ds t
    · exact ht.libgrow f lf h
end Run
end Go.Abs
