/- The functions that are given by hand. -/
import Derived.Test.YtlkjicigmhhjbaaGreatDoorNdTable
import Derived.Test.YtlkjicigmhhjbaaGreatDoorNdLib
import Derived.Test.YtlkjicigmhhjbaaGreatDoorRangeE
import Derived.Test.YtlkjicigmhhjbaaGreatDoorRangeV
import Derived.Test.YtlkjicigmhhjbaaGreatDoorLibW
import Derived.Shelf.RegionOpenPlain
import Derived.WalkKit
import Derived.Deep.LoopGhost
import Derived.Lib.Walk
import Derived.Sort.WalkB12
import Derived.Lib.SlicesMore
import Derived.Lib.ConvBytes
import Derived.Lib.OwnBridge
set_option linter.unusedVariables false
set_option linter.unusedSimpArgs false
namespace Go.Abs
noncomputable section
namespace Run
open Go.Proofs
def Zsd : List Nat → List Nat → Bool
  | _, [] => true
  | [], _ :: _ => false
  | a :: s, b :: p => Nat.beq a b && Zsd s p
def U8 (cut : List Nat) : List Nat → Nat → Nat
  | [], n => n
  | b :: r, n => bif Ztb b cut then U8 cut r (Nat.succ n) else n
def memQ (n : Nat) (l : List Nat) : Bool := List.rec (motive := fun _ => Bool) false (fun m _ ih => Bool.rec (motive := fun _ => Bool) ih true (Nat.beq n m)) l
theorem Z0g (n : Nat) : ∀ l, memQ n l = Ztb n l
  | [] => rfl
  | m :: r => by
    show Bool.rec (motive := fun _ => Bool) (memQ n r) true (Nat.beq n m) = _
    rw [Z0g n r, Ztb]
    cases Nat.beq n m <;> rfl
def cntQ (cut s : List Nat) (n : Nat) : Nat := List.rec (motive := fun _ => Nat → Nat) (fun n => n) (fun b _ ih n => Bool.rec (motive := fun _ => Nat) n (ih (Nat.add n 1)) (memQ b cut)) s n
theorem Z0p (cut : List Nat) : ∀ (s : List Nat) (n : Nat), cntQ cut s n = U8 cut s n
  | [], n => rfl
  | b :: r, n => by
    show Bool.rec (motive := fun _ => Nat) n (cntQ cut r (n + 1)) (memQ b cut) = _
    rw [Z0p cut r, Z0g, U8]
    cases Ztb b cut <;> rfl
def preQ (s p : List Nat) : Bool := List.rec (motive := fun _ => List Nat → Bool) (fun _ => true) (fun b _ ih s => List.rec (motive := fun _ => Bool) false (fun a t _ => Bool.rec (motive := fun _ => Bool) false (ih t) (Nat.beq a b)) s) p s
theorem Zz7 : ∀ (p s : List Nat), preQ s p = Zsd s p
  | [], s => by cases s <;> rfl
  | b :: p, [] => rfl
  | b :: p, a :: s => by
    show Bool.rec (motive := fun _ => Bool) false (preQ s p) (Nat.beq a b) = _
    rw [Zz7 p s, Zsd]
    cases Nat.beq a b <;> rfl
def UC : List D → H → O D := fun args h => match args with
  | [.str s, .str p] => .ok (.v (.bool (preQ s p))) h
  | _ => .fail "prefix"
def Znp : List D → H → O D := fun args h => match args with
  | [.str s, .str cut] => bif Zk3 cut && Nat.blt cut.length 4294967281 && Nat.blt (cntQ cut s 0) 9223372036854775808 then .ok (.int .i64 (.ofNat (cntQ cut s 0))) h else .fail "run"
  | _ => .fail "run"
def Zb3 (eb : TypeId) (ds : List D) (h : H) : O D :=
  match ds with
  | [.ptr l 0] => match Zk h (.ptr l 1) 1 with
    | some [.v (.slice none 0 0)] => .ok (.str []) h
    | _ => Zbb eb ds h
  | _ => .fail "String"
def bq {α : Type} (c : Bool) (a b : α) : α := Bool.rec (motive := fun _ => α) b a c
theorem Z0r {α : Type} (c : Bool) (a b : α) : bq c a b = bif c then a else b := by cases c <;> rfl
def Zh3 (f : Nat) : Option (List D → H → O D) :=
  bq (Nat.beq f 90) (some Zhe) <|
  bq (Nat.beq f 62) (some UC) <|
  bq (Nat.beq f 61) (some Znp) <|
  bq (Nat.beq f 91) (some UC) <|
  bq (Nat.beq f 193) (some (Zlz Tryz.prog 193)) <|
  bq (Nat.beq f 89) (some (Zb3 5)) <|
  bq (Nat.beq f 124) (some (Zdx 184)) <|
  bq (Nat.beq f 271) (some Zly) <|
  bq (Nat.beq f 319) (some Zhf) <|
  none
def env0 : Env := Zcc Tryz.prog glob Zh3
def tab0 : Nat → ZE := Zzm Zh3 TA
theorem Z7q : Z6p env0 tab0 := Zj3 Z0t Zh3
end Run
end
end Go.Abs
namespace Go.Proofs.TurnW
open Go.Shelf Go.RowKit Go.Lib Go.Sort
abbrev encB (b : UInt8) : Value := .int .u8 (b.toNat : Int)
theorem run_any (s cut : ByteArray) (w : World) (h1 : cut.size < 4294967281) (h2 : ∀ (j : Nat) b, cut.data.toList[j]? = some b → b.toNat < 128) (n : Nat) (hn : s.size = n + (Lib.trimLeftS s.data.toList cut.data.toList).length) (hb : n < 9223372036854775808) :
    Calls Tryz.prog 61 #[.string s, .string cut] w fun e w' => e = .returned (.int .i64 n) ∧ Below w.heap.size w w' := by
  go_enter Tryz.func61, Tryz.ntmps61
  go_wp2_with fail
  refine (RgLib.trim s cut _ h1 h2).mono ?_
  rintro e w2 ⟨rfl, hb⟩
  have e : (s.size : Int) - (Lib.trimLeftS s.data.toList cut.data.toList).length = n := by omega
  go_wp2_with fail
  go_ret
  exact ⟨rfl, hb⟩
theorem str_nil (b : Nat) (w : World) (h0 : w.cell? ⟨b, 1, none⟩ = some (.slice none 0 0)) :
    Calls Tryz.prog 89 #[.pointer (some ⟨b, 0, none⟩)] w fun e w' => e = .returned (.string ⟨#[]⟩) ∧ Below w.heap.size w w' := by
  have mixed : Tryz.prog.follows .mixedOrders = true := by kernel_rfl
  have hSD := Lib.run_unsafeSliceData_nil (P := Tryz.prog) (w := w.drew) #[71] 237 0 0
  have hUS : (Builtin.unsafeString_ #[237, 3] 9 #[.pointer none, .int .i64 0]).run Tryz.prog w.drew = .ok (.string ⟨#[]⟩) w.drew := Lib.run_unsafeString_none _ 237 3 9 none
  go_enter Tryz.func89, Tryz.ntmps89
  go_wp2
  go_region_o
  all_goals (go_wp2; go_ret; exact ⟨rfl, Below.drew (Below.refl _ _)⟩)
end Go.Proofs.TurnW
namespace Go.Abs
noncomputable section
namespace Run
open Go.Proofs Go.RowKit
theorem Zwp : ∀ (s p : List UInt8), Zsd (s.map (·.toNat)) (p.map (·.toNat)) = Lib.hasPrefix s p
  | s, [] => by cases s <;> rfl
  | [], b :: p => rfl
  | a :: s, b :: p => by
    have ih := Zwp s p
    unfold Lib.hasPrefix at ih ⊢
    simp only [List.map_cons, Zsd, ih, List.isPrefixOf]
    congr 1
    by_cases e : a = b
    · subst e; simp
    · have : ¬ a.toNat = b.toNat := fun h => e (UInt8.toNat_inj.1 h)
      have h1 : Nat.beq a.toNat b.toNat = false := by
        cases hb : Nat.beq a.toNat b.toNat with
        | false => rfl
        | true => exact absurd (Nat.eq_of_beq_eq_true hb) this
      rw [h1]
      have : ¬ b = a := fun h => e h.symm
      simp [this]
theorem Zqa (cut : List Nat) : ∀ (s : List Nat) (n : Nat), U8 cut s n + (Zh2 cut s).length = n + s.length
  | [], n => by simp [U8, Zh2]
  | b :: r, n => by
    cases h : Ztb b cut with
    | true =>
      have ih := Zqa cut r (Nat.succ n)
      simp only [U8, Zh2, h, cond_true, List.length_cons]
      omega
    | false => simp [U8, Zh2, h]
theorem Zl8 {P : Program} {glob : Nat → Option (List D)} {f : Nat} {lf : List D → H → O D} (hent : ∀ args w, (callFunc f args).run P w = .ok (.enter f args) w)
    (hl : ∀ ds h p d h', lf ds h = .mk p d h' → p = false ∧ h' = h ∧ ∀ g (args : Array Value), ZM g ds args.toList → ∀ w, ∃ v, VRel g d v ∧ Calls P f args w fun e w' => e = .returned v ∧ Below w.heap.size w w') : Yc P f lf glob :=
  Za8 fun ds h p d h' hrun => by
    obtain ⟨h1, h2, h3⟩ := hl ds h p d h' hrun
    exact ⟨h1, h2, fun top g w args hr hargs => ⟨hent args w, h3 g args hargs w⟩⟩
theorem Zcl {lf : List D → H → O D} (hl : ∀ ds h p d h', lf ds h = .mk p d h' → h' = h) : ∀ ds h, XZ h (lf ds h) := fun ds h => Wu fun p d h' ho => hl ds h p d h' ho
theorem Zb4 {ds : List D} {h h' : H} {p : Bool} {d : D} (ho : UC ds h = .mk p d h') : p = false ∧ h' = h ∧ ∃ s q, ds = [.str s, .str q] ∧ d = .v (.bool (Zsd s q)) := by
  unfold UC at ho
  simp only [Zz7] at ho
  split at ho
  · rename_i s q
    cases p with
    | true => cases ho
    | false => cases ho; exact ⟨rfl, rfl, s, q, rfl, rfl⟩
  · cases p <;> cases ho
theorem Zz6 {f : Nat} (hent : ∀ args w, (callFunc f args).run Tryz.prog w = .ok (.enter f args) w) (hc : ∀ (s p : ByteArray) (w : World), Calls Tryz.prog f #[.string s, .string p] w fun e w' => e = .returned (.bool (Lib.hasPrefix s.data.toList p.data.toList)) ∧ w' = w) : Yc Tryz.prog f UC glob :=
  Zl8 hent fun ds h p d h' ho => by
    obtain ⟨h1, h2, s, q, rfl, rfl⟩ := Zb4 ho
    refine ⟨h1, h2, fun g args hargs w => ?_⟩
    obtain ⟨v1, v2, rfl, r1, r2⟩ := hargs.two'
    obtain ⟨b, rfl, rfl⟩ := r1.str'
    obtain ⟨c, rfl, rfl⟩ := r2.str'
    refine ⟨_, ?_, (hc b c w).mono fun e w' he => ⟨he.1, by rw [he.2]; exact Below.refl _ _⟩⟩
    simp only [Yo, Zwp]
    exact .v _
theorem sim62 : Yc Tryz.prog 62 UC glob := Zz6 (enters_of Tryz.func62 (by kernel_rfl) rfl) Tryz.strings_HasPrefix
theorem sim91 : Yc Tryz.prog 91 UC glob := Zz6 (enters_of Tryz.func91 (by kernel_rfl) rfl) Tryz.stringslite_HasPrefix
theorem Zkp {ds : List D} {h h' : H} {p : Bool} {d : D} (ho : Znp ds h = .mk p d h') : p = false ∧ h' = h ∧ ∃ s cut, ds = [.str s, .str cut] ∧ d = .int .i64 (.ofNat (U8 cut s 0)) ∧ Zk3 cut = true ∧ cut.length < 4294967281 ∧ U8 cut s 0 < 9223372036854775808 := by
  unfold Znp at ho
  simp only [Z0p] at ho
  split at ho
  · rename_i s cut
    cases hq : Zk3 cut && Nat.blt cut.length 4294967281 && Nat.blt (U8 cut s 0) 9223372036854775808 with
    | false => rw [hq] at ho; cases p <;> cases ho
    | true =>
      rw [hq] at ho
      simp only [Bool.and_eq_true] at hq
      cases p with
      | true => cases ho
      | false => cases ho; exact ⟨rfl, rfl, s, cut, rfl, rfl, hq.1.1, Nat.le_of_ble_eq_true hq.1.2, Nat.le_of_ble_eq_true hq.2⟩
  · cases p <;> cases ho
theorem sim61 : Yc Tryz.prog 61 Znp glob := Zl8 (enters_of Tryz.func61 (by kernel_rfl) rfl) fun ds h p d h' ho => by
  obtain ⟨h1, h2, s, cut, rfl, rfl, h3, h4, h5⟩ := Zkp ho
  refine ⟨h1, h2, fun g args hargs w => ?_⟩
  obtain ⟨v1, v2, rfl, r1, r2⟩ := hargs.two'
  obtain ⟨b, rfl, rfl⟩ := r1.str'
  obtain ⟨c, rfl, rfl⟩ := r2.str'
  have e := Zqa (Yo c) (Yo b) 0
  have e2 := Zwc c.data.toList b.data.toList
  have e3 : (Zh2 (Yo c) (Yo b)).length = (Lib.trimLeftS b.data.toList c.data.toList).length := by
    show (Zh2 (c.data.toList.map (·.toNat)) (b.data.toList.map (·.toNat))).length = _
    rw [e2, List.length_map]
  refine ⟨_, ?_, TurnW.run_any b c w (by simpa [Yo] using h4) (Zw6 h3) (U8 (Yo c) (Yo b) 0) (by rw [← e3, e]; simp [Yo]) h5⟩
  exact .int _ _
theorem sim89 : Yc Tryz.prog 89 (Zb3 5) glob := by
  have hold : Yc Tryz.prog 89 (Zbb 5) glob := Zrb (by kernel_rfl) (enters_of Tryz.func89 (by kernel_rfl) rfl) RgLib.str
  intro ds h p d h' hrun top g w args htop hr hglob hargs
  unfold Zb3 at hrun
  split at hrun
  · rename_i l
    split at hrun
    · rename_i hc
      cases p with
      | true => cases hrun
      | false =>
        cases hrun
        obtain ⟨v1, rfl, r1⟩ := hargs.one'
        cases r1 with
        | ptr hbl =>
          rename_i b
          refine .inl ⟨enters_of Tryz.func89 (by kernel_rfl) rfl _ _, (TurnW.str_nil b w ?_).mono ?_⟩
          · unfold Zk at hc
            simp only at hc
            split at hc
            · rename_i ty cs hm
              obtain ⟨b', ob, hb', hob, hlies⟩ := hr.obj l _ hm (by intro n e hh; cases hh)
              rw [hbl] at hb'
              cases hb'
              have hcs : cs[1]? = some (.v (.slice none 0 0)) := by
                simp only [Bool.cond_eq_ite] at hc
                split at hc
                · have h0 := congrArg (fun o : Option (List D) => o.bind fun l => l[0]?) hc
                  simpa using h0
                · cases hc
              cases hlies with
              | cells hvs =>
                rename_i c
                obtain ⟨v, e, r⟩ := hvs.some hcs
                cases r
                simp only [World.cell?, hob]
                simpa using e
            · cases hc
          · rintro e w' ⟨rfl, hb⟩
            obtain ⟨he, hr'⟩ := hr.below hb
            exact ⟨_, rfl, g, he, hr', .str ⟨#[]⟩⟩
    · exact hold _ h p d h' hrun top g w args htop hr hglob hargs
  · cases p <;> cases hrun
theorem sim193 : Yc Tryz.prog 193 (Zlz Tryz.prog 193) glob := Zyp 193
theorem sim90 : Yc Tryz.prog 90 Zhe glob := Zwg (enters_of Tryz.func90 (by kernel_rfl) rfl) RgLib.trim
theorem sim124 : Yc Tryz.prog 124 (Zdx 184) glob := Zth (enters_of Tryz.func124 (by kernel_rfl) rfl) RgLib.check_fresh RgLib.check_used
theorem Zwn (nm : Nat → ByteArray) (z : Nat → Int) (s : ByteArray) : ∀ k, Rg.last nm z s k = Zh4 nm z s k
  | 0 => rfl
  | k + 1 => by simp only [Rg.last, Zh4, Zwn nm z s k]
theorem Zwm (nm : Nat → ByteArray) (z y : Nat → Int) (s : ByteArray) : ∀ k, Rg2.last nm z y s k = Zgr nm z y s k
  | 0 => rfl
  | k + 1 => by simp only [Rg2.last, Zgr, Zwm nm z y s k]
theorem sim319 : Yc Tryz.prog 319 Zhf glob := Zwi (enters_of Tryz.func319 (by kernel_rfl) rfl) fun rb ro a len cap nm y z s w hl hv hI => by
  have := callsIn_wide.1 (Rg2.name_in Fence.wide 4 trivial trivial trivial trivial rfl (Nat.le_refl _) rb ro a len cap nm y z s hl w hv hI)
  simp only [Zwm] at this
  exact this
theorem sim271 : Yc Tryz.prog 271 Zly glob := Zyo (enters_of Tryz.func271 (by kernel_rfl) rfl) fun a len cap nm z s w hl hI => by
  have := callsIn_wide.1 (Rg.Get_in Fence.wide 3 trivial trivial trivial rfl (Nat.le_refl _) a len cap nm z s hl w hI)
  simp only [Zwn] at this
  exact this
theorem Yp {α : Type} {c : Bool} {a x : α} {o : Option α} (h : (bif c then some a else o) = some x) : (c = true ∧ a = x) ∨ o = some x := by
  cases c with
  | true => exact .inl ⟨rfl, by simpa using h⟩
  | false => exact .inr h
theorem Zsc (f : Nat) (lf : List D → H → O D) (h : Zh3 f = some lf) : Yc Tryz.prog f lf glob := by
  unfold Zh3 at h
  simp only [Z0r] at h
  rcases Yp h with ⟨hf, rfl⟩ | h
  · rw [Nat.eq_of_beq_eq_true hf]; exact sim90
  rcases Yp h with ⟨hf, rfl⟩ | h
  · rw [Nat.eq_of_beq_eq_true hf]; exact sim62
  rcases Yp h with ⟨hf, rfl⟩ | h
  · rw [Nat.eq_of_beq_eq_true hf]; exact sim61
  rcases Yp h with ⟨hf, rfl⟩ | h
  · rw [Nat.eq_of_beq_eq_true hf]; exact sim91
  rcases Yp h with ⟨hf, rfl⟩ | h
  · rw [Nat.eq_of_beq_eq_true hf]; exact sim193
  rcases Yp h with ⟨hf, rfl⟩ | h
  · rw [Nat.eq_of_beq_eq_true hf]; exact sim89
  rcases Yp h with ⟨hf, rfl⟩ | h
  · rw [Nat.eq_of_beq_eq_true hf]; exact sim124
  rcases Yp h with ⟨hf, rfl⟩ | h
  · rw [Nat.eq_of_beq_eq_true hf]; exact sim271
  rcases Yp h with ⟨hf, rfl⟩ | h
  · rw [Nat.eq_of_beq_eq_true hf]; exact sim319
  cases h
theorem Zni : ∀ ds h, XZ h (Zb3 5 ds h) := fun ds h => by
  unfold Zb3
  split
  · split
    · exact Wu fun p d h' ho => by cases p <;> cases ho; rfl
    · exact Zps 5 _ _
  · exact Wu fun p d h' ho => by cases p <;> cases ho
theorem Zpr (f : Nat) (lf : List D → H → O D) (h : Zh3 f = some lf) : ∀ ds h, XZ h (lf ds h) := by
  unfold Zh3 at h
  simp only [Z0r] at h
  rcases Yp h with ⟨hf, rfl⟩ | h
  · exact Zte
  rcases Yp h with ⟨hf, rfl⟩ | h
  · exact Zcl fun ds h p d h' ho => (Zb4 ho).2.1
  rcases Yp h with ⟨hf, rfl⟩ | h
  · exact Zcl fun ds h p d h' ho => (Zkp ho).2.1
  rcases Yp h with ⟨hf, rfl⟩ | h
  · exact Zcl fun ds h p d h' ho => (Zb4 ho).2.1
  rcases Yp h with ⟨hf, rfl⟩ | h
  · exact Zwk 193
  rcases Yp h with ⟨hf, rfl⟩ | h
  · exact Zni
  rcases Yp h with ⟨hf, rfl⟩ | h
  · exact Zrc 184
  rcases Yp h with ⟨hf, rfl⟩ | h
  · exact Zwj
  rcases Yp h with ⟨hf, rfl⟩ | h
  · exact Ztf
  cases h
theorem Zkt : Tryz.prog.follows .mixedOrders = true := by kernel_rfl
theorem told0 : Told Tryz.prog glob env0 := Z7j Tryz.prog glob Zh3 Zkt Zsc Zpr
theorem Zsf : ∀ i cs, glob i = some cs → ∀ d ∈ cs, Zl9 d := by
  intro i cs hi
  unfold glob at hi
  rcases Yp hi with ⟨_, rfl⟩ | hi
  · exact Zao (P := Tryz.prog) (k := 2) (by kernel_rfl)
  rcases Yp hi with ⟨_, rfl⟩ | hi
  · exact Zao (P := Tryz.prog) (k := 2) (by kernel_rfl)
  cases hi
theorem Z01 {libs : Nat → Option (List D → H → O D)} (ht : Told Tryz.prog glob (Zcc Tryz.prog glob libs)) {k : Nat} {ds : List D} {t : D} (hs : Yc Tryz.prog k (Yy ds t) glob) :
    Told Tryz.prog glob (Zcc Tryz.prog glob fun f => bif Nat.beq f k then some (Yy ds t) else libs f) := by
  refine Z7j Tryz.prog glob _ Zkt (fun f lf h => ?_) (fun f lf h => ?_)
  · rcases Yp h with ⟨hf, rfl⟩ | h
    · rw [Nat.eq_of_beq_eq_true hf]; exact hs
    · exact ht.lib f lf h
  · rcases Yp h with ⟨hf, rfl⟩ | h
    · exact Zwh ds t
    · exact ht.libgrow f lf h
end Run
end
end Go.Abs
