/- Functions of the program that are given by hand: what they do in a world. -/
import Derived.Test.YthifolidfjpdkaaGreatDoorRangeE
import Derived.Test.YthifolidfjpdkaaGreatDoorRangeV
import Derived.Test.YthifolidfjpdkaaGreatDoorLibW
import Derived.Shelf.RegionOpenPlain
import Derived.WalkKit
import Derived.Deep.LoopGhost
import Derived.Lib.Walk
import Derived.Sort.WalkB12
import Derived.Lib.SlicesMore
import Derived.Lib.ConvBytes
import Derived.Lib.OwnBridge
import Derived.Test.YthifolidfjpdkaaGreatDoorNdLib
import Derived.Test.YthifolidfjpdkaaGreatDoorNdTable
set_option linter.unusedVariables false
set_option linter.unusedSimpArgs false
namespace Go.Proofs.TurnW
open Go.Shelf Go.RowKit Go.Lib Go.Sort
abbrev Zcx (b : UInt8) : Value := .int .u8 (b.toNat : Int)
theorem run_any (s cut : ByteArray) (w : World) (h1 : cut.size < 4294967281) (h2 : ∀ (j : Nat) b, cut.data.toList[j]? = some b → b.toNat < 128) (n : Nat) (hn : s.size = n + (Lib.trimLeftS s.data.toList cut.data.toList).length) (hb : n < 9223372036854775808) :
    Calls Tryz.prog 66 #[.string s, .string cut] w fun e w' => e = .returned (.int .i64 n) ∧ Below w.heap.size w w' := by
  go_enter Tryz.func66, Tryz.ntmps66
  go_wp2_with fail
  refine (RgLib.trim s cut _ h1 h2).mono ?_
  rintro e w2 ⟨rfl, hb⟩
  have e : (s.size : Int) - (Lib.trimLeftS s.data.toList cut.data.toList).length = n := by omega
  go_wp2_with fail
  go_ret
  exact ⟨rfl, hb⟩
theorem str_nil (b : Nat) (w : World) (h0 : w.cell? ⟨b, 1, none⟩ = some (.slice none 0 0)) :
    Calls Tryz.prog 24 #[.pointer (some ⟨b, 0, none⟩)] w fun e w' => e = .returned (.string ⟨#[]⟩) ∧ Below w.heap.size w w' := by
  have mixed : Tryz.prog.follows .mixedOrders = true := by kernel_rfl
  have hSD := Lib.run_unsafeSliceData_nil (P := Tryz.prog) (w := w.drew) #[61] 139 0 0
  have hUS : (Builtin.unsafeString_ #[139, 3] 9 #[.pointer none, .int .i64 0]).run Tryz.prog w.drew = .ok (.string ⟨#[]⟩) w.drew := Lib.run_unsafeString_none _ 139 3 9 none
  go_enter Tryz.func24, Tryz.ntmps24
  go_wp2
  go_region_o
  all_goals (go_wp2; go_ret; exact ⟨rfl, Below.drew (Below.refl _ _)⟩)
end Go.Proofs.TurnW
namespace Go.Abs
noncomputable section
namespace Run
open Go.Proofs Go.RowKit
theorem Zsh : ∀ (s p : List UInt8), Zoq (s.map (·.toNat)) (p.map (·.toNat)) = Lib.hasPrefix s p
  | s, [] => by cases s <;> rfl
  | [], b :: p => rfl
  | a :: s, b :: p => by
    have ih := Zsh s p
    unfold Lib.hasPrefix at ih ⊢
    simp only [List.map_cons, Zoq, ih, List.isPrefixOf]
    congr 1
    by_cases e : a = b
    · subst e; simp
    · have : ¬ a.toNat = b.toNat := fun h => e (UInt8.toNat_inj.1 h)
      have h1 : Nat.beq a.toNat b.toNat = false := by
        cases hb : Nat.beq a.toNat b.toNat with
        | false => rfl
        | true => exact absurd (Nat.eq_of_beq_eq_true hb) this
      rw [h1]
      have : ¬ b = a := fun h => e h.symm
      simp [this]
theorem Zna (cut : List Nat) : ∀ (s : List Nat) (n : Nat), Uu cut s n + (Zhd cut s).length = n + s.length
  | [], n => by simp [Uu, Zhd]
  | b :: r, n => by
    cases h : Zpx b cut with
    | true =>
      have ih := Zna cut r (Nat.succ n)
      simp only [Uu, Zhd, h, cond_true, List.length_cons]
      omega
    | false => simp [Uu, Zhd, h]
theorem Zew {P : Program} {glob : Nat → Option (List D)} {f : Nat} {lf : List D → H → O D} (hent : ∀ args w, (callFunc f args).run P w = .ok (.enter f args) w)
    (hl : ∀ ds h p d h', lf ds h = .mk p d h' → p = false ∧ h' = h ∧ ∀ g (args : Array Value), Zx g ds args.toList → ∀ w, ∃ v, VRel g d v ∧ Calls P f args w fun e w' => e = .returned v ∧ Below w.heap.size w w') : ZS P f lf glob :=
  Zcc fun ds h p d h' hrun => by
    obtain ⟨h1, h2, h3⟩ := hl ds h p d h' hrun
    exact ⟨h1, h2, fun top g w args hr hargs => ⟨hent args w, h3 g args hargs w⟩⟩
theorem U6 {lf : List D → H → O D} (hl : ∀ ds h p d h', lf ds h = .mk p d h' → h' = h) : ∀ ds h, Xc h (lf ds h) := fun ds h => WF fun p d h' ho => hl ds h p d h' ho
theorem Zcs {ds : List D} {h h' : H} {p : Bool} {d : D} (ho : Za5 ds h = .mk p d h') : p = false ∧ h' = h ∧ ∃ s q, ds = [.str s, .str q] ∧ d = .v (.bool (Zoq s q)) := by
  unfold Za5 at ho
  simp only [Zvl] at ho
  split at ho
  · rename_i s q
    cases p with
    | true => cases ho
    | false => cases ho; exact ⟨rfl, rfl, s, q, rfl, rfl⟩
  · cases p <;> cases ho
theorem Zvk {f : Nat} (hent : ∀ args w, (callFunc f args).run Tryz.prog w = .ok (.enter f args) w) (hc : ∀ (s p : ByteArray) (w : World), Calls Tryz.prog f #[.string s, .string p] w fun e w' => e = .returned (.bool (Lib.hasPrefix s.data.toList p.data.toList)) ∧ w' = w) : ZS Tryz.prog f Za5 glob :=
  Zew hent fun ds h p d h' ho => by
    obtain ⟨h1, h2, s, q, rfl, rfl⟩ := Zcs ho
    refine ⟨h1, h2, fun g args hargs w => ?_⟩
    obtain ⟨v1, v2, rfl, r1, r2⟩ := hargs.two'
    obtain ⟨b, rfl, rfl⟩ := r1.str'
    obtain ⟨c, rfl, rfl⟩ := r2.str'
    refine ⟨_, ?_, (hc b c w).mono fun e w' he => ⟨he.1, by rw [he.2]; exact Below.refl _ _⟩⟩
    simp only [ZQ, Zsh]
    exact .v _
theorem sim67 : ZS Tryz.prog 67 Za5 glob := Zvk (enters_of Tryz.func67 (by kernel_rfl) rfl) Tryz.strings_HasPrefix
theorem sim102 : ZS Tryz.prog 102 Za5 glob := Zvk (enters_of Tryz.func102 (by kernel_rfl) rfl) Tryz.stringslite_HasPrefix
theorem Zij {ds : List D} {h h' : H} {p : Bool} {d : D} (ho : Zlc ds h = .mk p d h') : p = false ∧ h' = h ∧ ∃ s cut, ds = [.str s, .str cut] ∧ d = .int .i64 (.ofNat (Uu cut s 0)) ∧ Ziw cut = true ∧ cut.length < 4294967281 ∧ Uu cut s 0 < 9223372036854775808 := by
  unfold Zlc at ho
  simp only [Zwe] at ho
  split at ho
  · rename_i s cut
    cases hq : Ziw cut && Nat.blt cut.length 4294967281 && Nat.blt (Uu cut s 0) 9223372036854775808 with
    | false => rw [hq] at ho; cases p <;> cases ho
    | true =>
      rw [hq] at ho
      simp only [Bool.and_eq_true] at hq
      cases p with
      | true => cases ho
      | false => cases ho; exact ⟨rfl, rfl, s, cut, rfl, rfl, hq.1.1, Nat.le_of_ble_eq_true hq.1.2, Nat.le_of_ble_eq_true hq.2⟩
  · cases p <;> cases ho
theorem sim66 : ZS Tryz.prog 66 Zlc glob := Zew (enters_of Tryz.func66 (by kernel_rfl) rfl) fun ds h p d h' ho => by
  obtain ⟨h1, h2, s, cut, rfl, rfl, h3, h4, h5⟩ := Zij ho
  refine ⟨h1, h2, fun g args hargs w => ?_⟩
  obtain ⟨v1, v2, rfl, r1, r2⟩ := hargs.two'
  obtain ⟨b, rfl, rfl⟩ := r1.str'
  obtain ⟨c, rfl, rfl⟩ := r2.str'
  have e := Zna (ZQ c) (ZQ b) 0
  have e2 := Zr3 c.data.toList b.data.toList
  have e3 : (Zhd (ZQ c) (ZQ b)).length = (Lib.trimLeftS b.data.toList c.data.toList).length := by
    show (Zhd (c.data.toList.map (·.toNat)) (b.data.toList.map (·.toNat))).length = _
    rw [e2, List.length_map]
  refine ⟨_, ?_, TurnW.run_any b c w (by simpa [ZQ] using h4) (Zs8 h3) (Uu (ZQ c) (ZQ b) 0) (by rw [← e3, e]; simp [ZQ]) h5⟩
  exact .int _ _
theorem sim24 : ZS Tryz.prog 24 (WG 5) glob := by
  have hold : ZS Tryz.prog 24 (Za4 5) glob := Znp (by kernel_rfl) (enters_of Tryz.func24 (by kernel_rfl) rfl) RgLib.str
  intro ds h p d h' hrun top g w args htop hr hglob hargs
  unfold WG at hrun
  split at hrun
  · rename_i l
    split at hrun
    · rename_i hc
      cases p with
      | true => cases hrun
      | false =>
        cases hrun
        obtain ⟨v1, rfl, r1⟩ := hargs.one'
        cases r1 with
        | ptr hbl =>
          rename_i b
          refine .inl ⟨enters_of Tryz.func24 (by kernel_rfl) rfl _ _, (TurnW.str_nil b w ?_).mono ?_⟩
          · unfold Zi at hc
            simp only at hc
            split at hc
            · rename_i ty cs hm
              obtain ⟨b', ob, hb', hob, hlies⟩ := hr.obj l _ hm (by intro n e hh; cases hh)
              rw [hbl] at hb'
              cases hb'
              have hcs : cs[1]? = some (.v (.slice none 0 0)) := by
                simp only [Bool.cond_eq_ite] at hc
                split at hc
                · have h0 := congrArg (fun o : Option (List D) => o.bind fun l => l[0]?) hc
                  simpa using h0
                · cases hc
              cases hlies with
              | cells hvs =>
                rename_i c
                obtain ⟨v, e, r⟩ := hvs.some hcs
                cases r
                simp only [World.cell?, hob]
                simpa using e
            · cases hc
          · rintro e w' ⟨rfl, hb⟩
            obtain ⟨he, hr'⟩ := hr.below hb
            exact ⟨_, rfl, g, he, hr', .str ⟨#[]⟩⟩
    · exact hold _ h p d h' hrun top g w args htop hr hglob hargs
  · cases p <;> cases hrun
theorem sim244 : ZS Tryz.prog 244 (Zju Tryz.prog 244) glob := Zub 244
theorem sim101 : ZS Tryz.prog 101 Zgy glob := Zr6 (enters_of Tryz.func101 (by kernel_rfl) rfl) RgLib.trim
theorem sim47 : ZS Tryz.prog 47 (X9 82) glob := Zp4 (enters_of Tryz.func47 (by kernel_rfl) rfl) RgLib.check_fresh RgLib.check_used
theorem Zsf (nm : Nat → ByteArray) (z : Nat → Int) (s : ByteArray) : ∀ k, Rg.last nm z s k = Zhf nm z s k
  | 0 => rfl
  | k + 1 => by simp only [Rg.last, Zhf, Zsf nm z s k]
theorem Zse (nm : Nat → ByteArray) (z y : Nat → Int) (s : ByteArray) : ∀ k, Rg2.last nm z y s k = Zge nm z y s k
  | 0 => rfl
  | k + 1 => by simp only [Rg2.last, Zge, Zse nm z y s k]
theorem sim331 : ZS Tryz.prog 331 Zgz glob := Zr8 (enters_of Tryz.func331 (by kernel_rfl) rfl) fun rb ro a len cap nm y z s w hl hv hI => by
  have := callsIn_wide.1 (Rg2.name_in Fence.wide 4 trivial trivial trivial trivial rfl (Nat.le_refl _) rb ro a len cap nm y z s hl w hv hI)
  simp only [Zse] at this
  exact this
theorem sim300 : ZS Tryz.prog 300 Zct glob := Zua (enters_of Tryz.func300 (by kernel_rfl) rfl) fun a len cap nm z s w hl hI => by
  have := callsIn_wide.1 (Rg.Get_in Fence.wide 3 trivial trivial trivial rfl (Nat.le_refl _) a len cap nm z s hl w hI)
  simp only [Zsf] at this
  exact this
theorem Ya {α : Type} {c : Bool} {a x : α} {o : Option α} (h : (bif c then some a else o) = some x) : (c = true ∧ a = x) ∨ o = some x := by
  cases c with
  | true => exact .inl ⟨rfl, by simpa using h⟩
  | false => exact .inr h
theorem Zxg (f : Nat) (lf : List D → H → O D) (h : Zih f = some lf) : ZS Tryz.prog f lf glob := by
  unfold Zih at h
  simp only [Z1k] at h
  rcases Ya h with ⟨hf, rfl⟩ | h
  · rw [Nat.eq_of_beq_eq_true hf]; exact sim101
  rcases Ya h with ⟨hf, rfl⟩ | h
  · rw [Nat.eq_of_beq_eq_true hf]; exact sim67
  rcases Ya h with ⟨hf, rfl⟩ | h
  · rw [Nat.eq_of_beq_eq_true hf]; exact sim66
  rcases Ya h with ⟨hf, rfl⟩ | h
  · rw [Nat.eq_of_beq_eq_true hf]; exact sim102
  rcases Ya h with ⟨hf, rfl⟩ | h
  · rw [Nat.eq_of_beq_eq_true hf]; exact sim244
  rcases Ya h with ⟨hf, rfl⟩ | h
  · rw [Nat.eq_of_beq_eq_true hf]; exact sim24
  rcases Ya h with ⟨hf, rfl⟩ | h
  · rw [Nat.eq_of_beq_eq_true hf]; exact sim47
  rcases Ya h with ⟨hf, rfl⟩ | h
  · rw [Nat.eq_of_beq_eq_true hf]; exact sim300
  rcases Ya h with ⟨hf, rfl⟩ | h
  · rw [Nat.eq_of_beq_eq_true hf]; exact sim331
  cases h
theorem Zkw : ∀ ds h, Xc h (WG 5 ds h) := fun ds h => by
  unfold WG
  split
  · split
    · exact WF fun p d h' ho => by cases p <;> cases ho; rfl
    · exact Zmo 5 _ _
  · exact WF fun p d h' ho => by cases p <;> cases ho
theorem Zt7 (f : Nat) (lf : List D → H → O D) (h : Zih f = some lf) : ∀ ds h, Xc h (lf ds h) := by
  unfold Zih at h
  simp only [Z1k] at h
  rcases Ya h with ⟨hf, rfl⟩ | h
  · exact Zp2
  rcases Ya h with ⟨hf, rfl⟩ | h
  · exact U6 fun ds h p d h' ho => (Zcs ho).2.1
  rcases Ya h with ⟨hf, rfl⟩ | h
  · exact U6 fun ds h p d h' ho => (Zij ho).2.1
  rcases Ya h with ⟨hf, rfl⟩ | h
  · exact U6 fun ds h p d h' ho => (Zcs ho).2.1
  rcases Ya h with ⟨hf, rfl⟩ | h
  · exact Zsb 244
  rcases Ya h with ⟨hf, rfl⟩ | h
  · exact Zkw
  rcases Ya h with ⟨hf, rfl⟩ | h
  · exact Znq 82
  rcases Ya h with ⟨hf, rfl⟩ | h
  · exact Zsa
  rcases Ya h with ⟨hf, rfl⟩ | h
  · exact Zp3
  cases h
theorem Zsn : Tryz.prog.follows .mixedOrders = true := by kernel_rfl
theorem told0 : Told Tryz.prog glob env0 := told Tryz.prog glob Zih Zsn Zxg Zt7
theorem Zot : ∀ i cs, glob i = some cs → ∀ d ∈ cs, Zh5 d := by
  intro i cs hi
  unfold glob at hi
  rcases Ya hi with ⟨_, rfl⟩ | hi
  · exact Zdf (P := Tryz.prog) (k := 2) (by kernel_rfl)
  rcases Ya hi with ⟨_, rfl⟩ | hi
  · exact Zdf (P := Tryz.prog) (k := 2) (by kernel_rfl)
  cases hi
end Run
end
end Go.Abs
