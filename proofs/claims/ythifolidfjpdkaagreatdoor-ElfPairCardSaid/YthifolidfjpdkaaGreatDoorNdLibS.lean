/- Functions of the program that are given by hand: what they do in a world. -/
import Derived.Test.YthifolidfjpdkaaGreatDoorRangeE
import Derived.Test.YthifolidfjpdkaaGreatDoorRangeV
import Derived.Test.YthifolidfjpdkaaGreatDoorLibW
import Derived.Shelf.RegionOpenPlain
import Derived.WalkKit
import Derived.Deep.LoopGhost
import Derived.Lib.Walk
import Derived.Sort.WalkB12
import Derived.Lib.SlicesMore
import Derived.Lib.ConvBytes
import Derived.Lib.OwnBridge
import Derived.Test.YthifolidfjpdkaaGreatDoorNdLib
import Derived.Test.YthifolidfjpdkaaGreatDoorNdTable
set_option linter.unusedVariables false
set_option linter.unusedSimpArgs false
namespace Go.Proofs.TurnW
open Go.Shelf Go.RowKit Go.Lib Go.Sort
abbrev Zco (b : UInt8) : Value := .int .u8 (b.toNat : Int)
theorem run_any (s cut : ByteArray) (w : World) (h1 : cut.size < 4294967281) (h2 : ∀ (j : Nat) b,cut.data.toList[j]? = some b → b.toNat < 128) (n : Nat) (hn : s.size = n + (Lib.trimLeftS s.data.toList cut.data.toList).length) (hb : n < 9223372036854775808) :
    Calls Tryz.prog 66 #[.string s,.string cut] w fun e w' => e = .returned (.int .i64 n) ∧ Below w.heap.size w w' := by
  go_enter Tryz.func66,Tryz.ntmps66
  go_wp2_with fail
  refine (RgLib.trim s cut _ h1 h2).mono ?_
  rintro e w2 ⟨rfl,hb⟩
  have e : (s.size : Int) - (Lib.trimLeftS s.data.toList cut.data.toList).length = n := by omega
  go_wp2_with fail
  go_ret
  exact ⟨rfl,hb⟩
theorem str_nil (b : Nat) (w : World) (h0 : w.cell? ⟨b,1,none⟩ = some (.slice none 0 0)) :
    Calls Tryz.prog 24 #[.pointer (some ⟨b,0,none⟩)] w fun e w' => e = .returned (.string ⟨#[]⟩) ∧ Below w.heap.size w w' := by
  have mixed : Tryz.prog.follows .mixedOrders = true := by kernel_rfl
  have hSD := Lib.run_unsafeSliceData_nil (P := Tryz.prog) (w := w.drew) #[61] 139 0 0
  have hUS : (Builtin.unsafeString_ #[139,3] 9 #[.pointer none,.int .i64 0]).run Tryz.prog w.drew = .ok (.string ⟨#[]⟩) w.drew := Lib.run_unsafeString_none _ 139 3 9 none
  go_enter Tryz.func24,Tryz.ntmps24
  go_wp2
  go_region_o
  all_goals (go_wp2; go_ret; exact ⟨rfl,Below.drew (Below.refl _ _)⟩)
end Go.Proofs.TurnW
namespace Go.Abs
noncomputable section
namespace Run
open Go.Proofs Go.RowKit
theorem Zve : ∀ (s p : List UInt8),Zq6 (s.map (·.toNat)) (p.map (·.toNat)) = Lib.hasPrefix s p
  | s,[] => by cases s <;> rfl
  | [],b :: p => rfl
  | a :: s,b :: p => by
    have ih := Zve s p
    unfold Lib.hasPrefix at ih ⊢
    simp only [List.map_cons,Zq6,ih,List.isPrefixOf]
    congr 1
    by_cases e : a = b
    · subst e; simp
    · have : ¬ a.toNat = b.toNat := fun h => e (UInt8.toNat_inj.1 h)
      have h1 : Nat.beq a.toNat b.toNat = false := by
        cases hb : Nat.beq a.toNat b.toNat with
        | false => rfl
        | true => exact absurd (Nat.eq_of_beq_eq_true hb) this
      rw [h1]
      have : ¬ b = a := fun h => e h.symm
      simp [this]
theorem Zpi (cut : List Nat) : ∀ (s : List Nat) (n : Nat),Zbi cut s n + (Zi2 cut s).length = n + s.length
  | [],n => by simp [Zbi,Zi2]
  | b :: r,n => by
    cases h : Zsn b cut with
    | true =>
      have ih := Zpi cut r (Nat.succ n)
      simp only [Zbi,Zi2,h,cond_true,List.length_cons]
      omega
    | false => simp [Zbi,Zi2,h]
theorem Zf5 {P : Program} {glob : Nat → Option (List D)} {f : Nat} {lf : List D → H → O D} (hent : ∀ args w,(callFunc f args).run P w = .ok (.enter f args) w)
    (hl : ∀ ds h p d h',lf ds h = .mk p d h' → p = false ∧ h' = h ∧ ∀ g (args : Array Value),Zk g ds args.toList → ∀ w,∃ v,VRel g d v ∧ Calls P f args w fun e w' => e = .returned v ∧ Below w.heap.size w w') : Zp P f lf glob :=
  Zds fun ds h p d h' hrun => by
    obtain ⟨h1,h2,h3⟩ := hl ds h p d h' hrun
    exact ⟨h1,h2,fun top g w args hr hargs => ⟨hent args w,h3 g args hargs w⟩⟩
theorem VZ {lf : List D → H → O D} (hl : ∀ ds h p d h',lf ds h = .mk p d h' → h' = h) : ∀ ds h,Xv h (lf ds h) := fun ds h => WG fun p d h' ho => hl ds h p d h' ho
theorem Zea {ds : List D} {h h' : H} {p : Bool} {d : D} (ho : Zb3 ds h = .mk p d h') : p = false ∧ h' = h ∧ ∃ s q,ds = [.str s,.str q] ∧ d = .v (.bool (Zq6 s q)) := by
  unfold Zb3 at ho
  simp only [Zys] at ho
  split at ho
  · rename_i s q
    cases p with
    | true => cases ho
    | false => cases ho; exact ⟨rfl,rfl,s,q,rfl,rfl⟩
  · cases p <;> cases ho
theorem Zyr {f : Nat} (hent : ∀ args w,(callFunc f args).run Tryz.prog w = .ok (.enter f args) w) (hc : ∀ (s p : ByteArray) (w : World),Calls Tryz.prog f #[.string s,.string p] w fun e w' => e = .returned (.bool (Lib.hasPrefix s.data.toList p.data.toList)) ∧ w' = w) : Zp Tryz.prog f Zb3 glob :=
  Zf5 hent fun ds h p d h' ho => by
    obtain ⟨h1,h2,s,q,rfl,rfl⟩ := Zea ho
    refine ⟨h1,h2,fun g args hargs w => ?_⟩
    obtain ⟨v1,v2,rfl,r1,r2⟩ := hargs.two'
    obtain ⟨b,rfl,rfl⟩ := r1.str'
    obtain ⟨c,rfl,rfl⟩ := r2.str'
    refine ⟨_, ?_,(hc b c w).mono fun e w' he => ⟨he.1,by rw [he.2]; exact Below.refl _ _⟩⟩
    simp only [ZE,Zve]
    exact .v _
theorem sim67 : Zp Tryz.prog 67 Zb3 glob := Zyr (enters_of Tryz.func67 (by kernel_rfl) rfl) Tryz.strings_HasPrefix
theorem sim102 : Zp Tryz.prog 102 Zb3 glob := Zyr (enters_of Tryz.func102 (by kernel_rfl) rfl) Tryz.stringslite_HasPrefix
theorem Zkj {ds : List D} {h h' : H} {p : Bool} {d : D} (ho : Znc ds h = .mk p d h') : p = false ∧ h' = h ∧ ∃ s cut,ds = [.str s,.str cut] ∧ d = .int .i64 (.ofNat (Zbi cut s 0)) ∧ Zkv cut = true ∧ cut.length < 4294967281 ∧ Zbi cut s 0 < 9223372036854775808 := by
  unfold Znc at ho
  simp only [Zzo] at ho
  split at ho
  · rename_i s cut
    cases hq : Zkv cut && Nat.blt cut.length 4294967281 && Nat.blt (Zbi cut s 0) 9223372036854775808 with
    | false => rw [hq] at ho; cases p <;> cases ho
    | true =>
      rw [hq] at ho
      simp only [Bool.and_eq_true] at hq
      cases p with
      | true => cases ho
      | false => cases ho; exact ⟨rfl,rfl,s,cut,rfl,rfl,hq.1.1,Nat.le_of_ble_eq_true hq.1.2,Nat.le_of_ble_eq_true hq.2⟩
  · cases p <;> cases ho
theorem sim66 : Zp Tryz.prog 66 Znc glob := Zf5 (enters_of Tryz.func66 (by kernel_rfl) rfl) fun ds h p d h' ho => by
  obtain ⟨h1,h2,s,cut,rfl,rfl,h3,h4,h5⟩ := Zkj ho
  refine ⟨h1,h2,fun g args hargs w => ?_⟩
  obtain ⟨v1,v2,rfl,r1,r2⟩ := hargs.two'
  obtain ⟨b,rfl,rfl⟩ := r1.str'
  obtain ⟨c,rfl,rfl⟩ := r2.str'
  have e := Zpi (ZE c) (ZE b) 0
  have e2 := Zu1 c.data.toList b.data.toList
  have e3 : (Zi2 (ZE c) (ZE b)).length = (Lib.trimLeftS b.data.toList c.data.toList).length := by
    show (Zi2 (c.data.toList.map (·.toNat)) (b.data.toList.map (·.toNat))).length = _
    rw [e2,List.length_map]
  refine ⟨_, ?_,TurnW.run_any b c w (by simpa [ZE] using h4) (Zv6 h3) (Zbi (ZE c) (ZE b) 0) (by rw [← e3,e]; simp [ZE]) h5⟩
  exact .int _ _
theorem sim24 : Zp Tryz.prog 24 (Vo 5) glob := by
  have hold : Zp Tryz.prog 24 (Zb2 5) glob := Zp0 (by kernel_rfl) (enters_of Tryz.func24 (by kernel_rfl) rfl) RgLib.str
  intro ds h p d h' hrun top g w args htop hr hglob hargs
  unfold Vo at hrun
  split at hrun
  · rename_i l
    split at hrun
    · rename_i hc
      cases p with
      | true => cases hrun
      | false =>
        cases hrun
        obtain ⟨v1,rfl,r1⟩ := hargs.one'
        cases r1 with
        | ptr hbl =>
          rename_i b
          refine .inl ⟨enters_of Tryz.func24 (by kernel_rfl) rfl _ _,(TurnW.str_nil b w ?_).mono ?_⟩
          · unfold Z3 at hc
            simp only at hc
            split at hc
            · rename_i ty cs hm
              obtain ⟨b',ob,hb',hob,hlies⟩ := hr.obj l _ hm (by intro n e hh; cases hh)
              rw [hbl] at hb'
              cases hb'
              have hcs : cs[1]? = some (.v (.slice none 0 0)) := by
                simp only [Bool.cond_eq_ite] at hc
                split at hc
                · have h0 := congrArg (fun o : Option (List D) => o.bind fun l => l[0]?) hc
                  simpa using h0
                · cases hc
              cases hlies with
              | cells hvs =>
                rename_i c
                obtain ⟨v,e,r⟩ := hvs.some hcs
                cases r
                simp only [World.cell?,hob]
                simpa using e
            · cases hc
          · rintro e w' ⟨rfl,hb⟩
            obtain ⟨he,hr'⟩ := hr.below hb
            exact ⟨_,rfl,g,he,hr',.str ⟨#[]⟩⟩
    · exact hold _ h p d h' hrun top g w args htop hr hglob hargs
  · cases p <;> cases hrun
theorem sim244 : Zp Tryz.prog 244 (Zlt Tryz.prog 244) glob := Zxb 244
theorem sim101 : Zp Tryz.prog 101 Zih glob := Zu4 (enters_of Tryz.func101 (by kernel_rfl) rfl) RgLib.trim
theorem sim47 : Zp Tryz.prog 47 (XZ 82) glob := Zsu (enters_of Tryz.func47 (by kernel_rfl) rfl) RgLib.check_fresh RgLib.check_used
theorem Zvd (nm : Nat → ByteArray) (z : Nat → Int) (s : ByteArray) : ∀ k,Rg.last nm z s k = Zi6 nm z s k
  | 0 => rfl
  | k + 1 => by simp only [Rg.last,Zi6,Zvd nm z s k]
theorem Zvc (nm : Nat → ByteArray) (z y : Nat → Int) (s : ByteArray) : ∀ k,Rg2.last nm z y s k = Zhu nm z y s k
  | 0 => rfl
  | k + 1 => by simp only [Rg2.last,Zhu,Zvc nm z y s k]
theorem sim331 : Zp Tryz.prog 331 Zii glob := Zu6 (enters_of Tryz.func331 (by kernel_rfl) rfl) fun rb ro a len cap nm y z s w hl hv hI => by
  have := callsIn_wide.1 (Rg2.name_in Fence.wide 4 trivial trivial trivial trivial rfl (Nat.le_refl _) rb ro a len cap nm y z s hl w hv hI)
  simp only [Zvc] at this
  exact this
theorem sim300 : Zp Tryz.prog 300 Zeb glob := Zxa (enters_of Tryz.func300 (by kernel_rfl) rfl) fun a len cap nm z s w hl hI => by
  have := callsIn_wide.1 (Rg.Get_in Fence.wide 3 trivial trivial trivial rfl (Nat.le_refl _) a len cap nm z s hl w hI)
  simp only [Zvd] at this
  exact this
theorem Y6 {α : Type} {c : Bool} {a x : α} {o : Option α} (h : (bif c then some a else o) = some x) : (c = true ∧ a = x) ∨ o = some x := by
  cases c with
  | true => exact .inl ⟨rfl,by simpa using h⟩
  | false => exact .inr h
theorem Z0v (f : Nat) (lf : List D → H → O D) (h : Zi3 f = some lf) : Zp Tryz.prog f lf glob := by
  unfold Zi3 at h
  simp only [Z5z] at h
  rcases Y6 h with ⟨hf,rfl⟩ | h
  · rw [Nat.eq_of_beq_eq_true hf]; exact sim101
  rcases Y6 h with ⟨hf,rfl⟩ | h
  · rw [Nat.eq_of_beq_eq_true hf]; exact sim67
  rcases Y6 h with ⟨hf,rfl⟩ | h
  · rw [Nat.eq_of_beq_eq_true hf]; exact sim66
  rcases Y6 h with ⟨hf,rfl⟩ | h
  · rw [Nat.eq_of_beq_eq_true hf]; exact sim102
  rcases Y6 h with ⟨hf,rfl⟩ | h
  · rw [Nat.eq_of_beq_eq_true hf]; exact sim244
  rcases Y6 h with ⟨hf,rfl⟩ | h
  · rw [Nat.eq_of_beq_eq_true hf]; exact sim24
  rcases Y6 h with ⟨hf,rfl⟩ | h
  · rw [Nat.eq_of_beq_eq_true hf]; exact sim47
  rcases Y6 h with ⟨hf,rfl⟩ | h
  · rw [Nat.eq_of_beq_eq_true hf]; exact sim300
  rcases Y6 h with ⟨hf,rfl⟩ | h
  · rw [Nat.eq_of_beq_eq_true hf]; exact sim331
  cases h
theorem Zmz : ∀ ds h,Xv h (Vo 5 ds h) := fun ds h => by
  unfold Vo
  split
  · split
    · exact WG fun p d h' ho => by cases p <;> cases ho; rfl
    · exact Zot 5 _ _
  · exact WG fun p d h' ho => by cases p <;> cases ho
theorem Zw7 (f : Nat) (lf : List D → H → O D) (h : Zi3 f = some lf) : ∀ ds h,Xv h (lf ds h) := by
  unfold Zi3 at h
  simp only [Z5z] at h
  rcases Y6 h with ⟨hf,rfl⟩ | h
  · exact Zss
  rcases Y6 h with ⟨hf,rfl⟩ | h
  · exact VZ fun ds h p d h' ho => (Zea ho).2.1
  rcases Y6 h with ⟨hf,rfl⟩ | h
  · exact VZ fun ds h p d h' ho => (Zkj ho).2.1
  rcases Y6 h with ⟨hf,rfl⟩ | h
  · exact VZ fun ds h p d h' ho => (Zea ho).2.1
  rcases Y6 h with ⟨hf,rfl⟩ | h
  · exact Zu8 244
  rcases Y6 h with ⟨hf,rfl⟩ | h
  · exact Zmz
  rcases Y6 h with ⟨hf,rfl⟩ | h
  · exact Zp1 82
  rcases Y6 h with ⟨hf,rfl⟩ | h
  · exact Zu7
  rcases Y6 h with ⟨hf,rfl⟩ | h
  · exact Zst
  cases h
theorem Zvi : Tryz.prog.follows .mixedOrders = true := by kernel_rfl
theorem Z2b : Told Tryz.prog glob env0 := told Tryz.prog glob Zi3 Zvi Z0v Zw7
theorem Zfs : ∀ i cs,glob i = some cs → ∀ d ∈ cs,Ziv d := by
  intro i cs hi
  unfold glob at hi
  rcases Y6 hi with ⟨_,rfl⟩ | hi
  · exact Zaf (P := Tryz.prog) (k := 2) (by kernel_rfl)
  rcases Y6 hi with ⟨_,rfl⟩ | hi
  · exact Zaf (P := Tryz.prog) (k := 2) (by kernel_rfl)
  cases hi
end Run
end
end Go.Abs
