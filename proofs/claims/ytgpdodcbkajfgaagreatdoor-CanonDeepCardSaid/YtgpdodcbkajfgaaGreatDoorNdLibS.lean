/- The functions that are given by hand. -/
import Derived.Test.YtgpdodcbkajfgaaGreatDoorNdTable
import Derived.Test.YtgpdodcbkajfgaaGreatDoorNdLib
import Derived.Test.YtgpdodcbkajfgaaGreatDoorLibW
import Derived.Shelf.RegionOpenPlain
import Derived.WalkKit
import Derived.Deep.LoopGhost
import Derived.Lib.Walk
import Derived.Sort.WalkB12
import Derived.Lib.SlicesMore
import Derived.Lib.ConvBytes
import Derived.Lib.OwnBridge
set_option linter.unusedVariables false
set_option linter.unusedSimpArgs false
namespace Go.Abs
namespace Run
open Go.Proofs
def isPre : List Nat → List Nat → Bool
  | _, [] => true
  | [], _ :: _ => false
  | a :: s, b :: p => Nat.beq a b && isPre s p
def libPrefix : List D → H → O D := fun args h => match args with
  | [.str s, .str p] => .ok (.v (.bool (isPre s p))) h
  | _ => .fail "prefix"
def countIn (cut : List Nat) : List Nat → Nat → Nat
  | [], n => n
  | b :: r, n => bif memN b cut then countIn cut r (Nat.succ n) else n
def libRunN : List D → H → O D := fun args h => match args with
  | [.str s, .str cut] => bif ascii cut && Nat.blt cut.length 4294967281 && Nat.blt (countIn cut s 0) 9223372036854775808 then .ok (.int .i64 (.ofNat (countIn cut s 0))) h else .fail "run"
  | _ => .fail "run"
def libString0 (eb : TypeId) (ds : List D) (h : H) : O D :=
  match ds with
  | [.ptr l 0] => match Za h (.ptr l 1) 1 with
    | some [.v (.slice none 0 0)] => .ok (.str []) h
    | _ => libString eb ds h
  | _ => .fail "String"
noncomputable def libs0 (f : Nat) : Option (List D → H → O D) :=
  bif Nat.beq f 150 then some Xx else
  bif Nat.beq f 112 then some libPrefix else
  bif Nat.beq f 111 then some libRunN else
  bif Nat.beq f 151 then some libPrefix else
  bif Nat.beq f 192 then some (libExt Tryz.prog 192) else
  bif Nat.beq f 176 then some (libString0 5) else
  bif Nat.beq f 222 then some (libCheck 279) else
  none
noncomputable def env0 : Env := envOf Tryz.prog glob libs0
end Run
end Go.Abs
namespace Go.Proofs.TurnW
open Go.Shelf Go.RowKit Go.Lib Go.Sort
abbrev encB (b : UInt8) : Value := .int .u8 (b.toNat : Int)
theorem run_any (s cut : ByteArray) (w : World) (h1 : cut.size < 4294967281) (h2 : ∀ (j : Nat) b, cut.data.toList[j]? = some b → b.toNat < 128) (n : Nat) (hn : s.size = n + (Lib.trimLeftS s.data.toList cut.data.toList).length) (hb : n < 9223372036854775808) :
    Calls Tryz.prog 111 #[.string s, .string cut] w fun e w' => e = .returned (.int .i64 n) ∧ Below w.heap.size w w' := by
  go_enter Tryz.func111, Tryz.ntmps111
  go_wp2_with fail
  refine (RgLib.trim s cut _ h1 h2).mono ?_
  rintro e w2 ⟨rfl, hb⟩
  have e : (s.size : Int) - (Lib.trimLeftS s.data.toList cut.data.toList).length = n := by omega
  go_wp2_with fail
  go_ret
  exact ⟨rfl, hb⟩
theorem str_nil (b : Nat) (w : World) (h0 : w.cell? ⟨b, 1, none⟩ = some (.slice none 0 0)) :
    Calls Tryz.prog 176 #[.pointer (some ⟨b, 0, none⟩)] w fun e w' => e = .returned (.string ⟨#[]⟩) ∧ Below w.heap.size w w' := by
  have mixed : Tryz.prog.follows .mixedOrders = true := by kernel_rfl
  have hSD := Lib.run_unsafeSliceData_nil (P := Tryz.prog) (w := w.drew) #[64] 328 0 0
  have hUS : (Builtin.unsafeString_ #[328, 3] 9 #[.pointer none, .int .i64 0]).run Tryz.prog w.drew = .ok (.string ⟨#[]⟩) w.drew := Lib.run_unsafeString_none _ 328 3 9 none
  go_enter Tryz.func176, Tryz.ntmps176
  go_wp2
  go_region_o
  all_goals (go_wp2; go_ret; exact ⟨rfl, Below.drew (Below.refl _ _)⟩)
end Go.Proofs.TurnW
namespace Go.Abs
namespace Run
open Go.Proofs Go.RowKit
theorem isPre_eq : ∀ (s p : List UInt8), isPre (s.map (·.toNat)) (p.map (·.toNat)) = Lib.hasPrefix s p
  | s, [] => by cases s <;> rfl
  | [], b :: p => rfl
  | a :: s, b :: p => by
    have ih := isPre_eq s p
    unfold Lib.hasPrefix at ih ⊢
    simp only [List.map_cons, isPre, ih, List.isPrefixOf]
    congr 1
    by_cases e : a = b
    · subst e; simp
    · have : ¬ a.toNat = b.toNat := fun h => e (UInt8.toNat_inj.1 h)
      have h1 : Nat.beq a.toNat b.toNat = false := by
        cases hb : Nat.beq a.toNat b.toNat with
        | false => rfl
        | true => exact absurd (Nat.eq_of_beq_eq_true hb) this
      rw [h1]
      have : ¬ b = a := fun h => e h.symm
      simp [this]
theorem countIn_eq (cut : List Nat) : ∀ (s : List Nat) (n : Nat), countIn cut s n + (ltrim cut s).length = n + s.length
  | [], n => by simp [countIn, ltrim]
  | b :: r, n => by
    cases h : memN b cut with
    | true =>
      have ih := countIn_eq cut r (Nat.succ n)
      simp only [countIn, ltrim, h, cond_true, List.length_cons]
      omega
    | false => simp [countIn, ltrim, h]
theorem below_lib {P : Program} {glob : Nat → Option (List D)} {f : Nat} {lf : List D → H → O D} (hent : ∀ args w, (callFunc f args).run P w = .ok (.enter f args) w)
    (hl : ∀ ds h p d h', lf ds h = .mk p d h' → p = false ∧ h' = h ∧ ∀ g (args : Array Value), ZS g ds args.toList → ∀ w, ∃ v, VRel g d v ∧ Calls P f args w fun e w' => e = .returned v ∧ Below w.heap.size w w') : Y4 P f lf glob :=
  libsim_below fun ds h p d h' hrun => by
    obtain ⟨h1, h2, h3⟩ := hl ds h p d h' hrun
    exact ⟨h1, h2, fun top g w args hr hargs => ⟨hent args w, h3 g args hargs w⟩⟩
theorem below_grow {lf : List D → H → O D} (hl : ∀ ds h p d h', lf ds h = .mk p d h' → h' = h) : ∀ ds h, Xm h (lf ds h) := fun ds h => XN fun p d h' ho => hl ds h p d h' ho
theorem libPrefix_same {ds : List D} {h h' : H} {p : Bool} {d : D} (ho : libPrefix ds h = .mk p d h') : p = false ∧ h' = h ∧ ∃ s q, ds = [.str s, .str q] ∧ d = .v (.bool (isPre s q)) := by
  unfold libPrefix at ho
  split at ho
  · rename_i s q
    cases p with
    | true => cases ho
    | false => cases ho; exact ⟨rfl, rfl, s, q, rfl, rfl⟩
  · cases p <;> cases ho
theorem pre_sim {f : Nat} (hent : ∀ args w, (callFunc f args).run Tryz.prog w = .ok (.enter f args) w) (hc : ∀ (s p : ByteArray) (w : World), Calls Tryz.prog f #[.string s, .string p] w fun e w' => e = .returned (.bool (Lib.hasPrefix s.data.toList p.data.toList)) ∧ w' = w) : Y4 Tryz.prog f libPrefix glob :=
  below_lib hent fun ds h p d h' ho => by
    obtain ⟨h1, h2, s, q, rfl, rfl⟩ := libPrefix_same ho
    refine ⟨h1, h2, fun g args hargs w => ?_⟩
    obtain ⟨v1, v2, rfl, r1, r2⟩ := hargs.two'
    obtain ⟨b, rfl, rfl⟩ := r1.str'
    obtain ⟨c, rfl, rfl⟩ := r2.str'
    refine ⟨_, ?_, (hc b c w).mono fun e w' he => ⟨he.1, by rw [he.2]; exact Below.refl _ _⟩⟩
    simp only [Yf, isPre_eq]
    exact .v _
theorem sim112 : Y4 Tryz.prog 112 libPrefix glob := pre_sim (enters_of Tryz.func112 (by kernel_rfl) rfl) Tryz.strings_HasPrefix
theorem sim151 : Y4 Tryz.prog 151 libPrefix glob := pre_sim (enters_of Tryz.func151 (by kernel_rfl) rfl) Tryz.stringslite_HasPrefix
theorem libRunN_same {ds : List D} {h h' : H} {p : Bool} {d : D} (ho : libRunN ds h = .mk p d h') : p = false ∧ h' = h ∧ ∃ s cut, ds = [.str s, .str cut] ∧ d = .int .i64 (.ofNat (countIn cut s 0)) ∧ ascii cut = true ∧ cut.length < 4294967281 ∧ countIn cut s 0 < 9223372036854775808 := by
  unfold libRunN at ho
  split at ho
  · rename_i s cut
    cases hq : ascii cut && Nat.blt cut.length 4294967281 && Nat.blt (countIn cut s 0) 9223372036854775808 with
    | false => rw [hq] at ho; cases p <;> cases ho
    | true =>
      rw [hq] at ho
      simp only [Bool.and_eq_true] at hq
      cases p with
      | true => cases ho
      | false => cases ho; exact ⟨rfl, rfl, s, cut, rfl, rfl, hq.1.1, Nat.le_of_ble_eq_true hq.1.2, Nat.le_of_ble_eq_true hq.2⟩
  · cases p <;> cases ho
theorem sim111 : Y4 Tryz.prog 111 libRunN glob := below_lib (enters_of Tryz.func111 (by kernel_rfl) rfl) fun ds h p d h' ho => by
  obtain ⟨h1, h2, s, cut, rfl, rfl, h3, h4, h5⟩ := libRunN_same ho
  refine ⟨h1, h2, fun g args hargs w => ?_⟩
  obtain ⟨v1, v2, rfl, r1, r2⟩ := hargs.two'
  obtain ⟨b, rfl, rfl⟩ := r1.str'
  obtain ⟨c, rfl, rfl⟩ := r2.str'
  have e := countIn_eq (Yf c) (Yf b) 0
  have e2 := ltrim_eq c.data.toList b.data.toList
  have e3 : (ltrim (Yf c) (Yf b)).length = (Lib.trimLeftS b.data.toList c.data.toList).length := by
    show (ltrim (c.data.toList.map (·.toNat)) (b.data.toList.map (·.toNat))).length = _
    rw [e2, List.length_map]
  refine ⟨_, ?_, TurnW.run_any b c w (by simpa [Yf] using h4) (ascii_eq h3) (countIn (Yf c) (Yf b) 0) (by rw [← e3, e]; simp [Yf]) h5⟩
  exact .int _ _
theorem sim176 : Y4 Tryz.prog 176 (libString0 5) glob := by
  have hold : Y4 Tryz.prog 176 (libString 5) glob := libString_sim (by kernel_rfl) (enters_of Tryz.func176 (by kernel_rfl) rfl) RgLib.str
  intro ds h p d h' hrun top g w args htop hr hglob hargs
  unfold libString0 at hrun
  split at hrun
  · rename_i l
    split at hrun
    · rename_i hc
      cases p with
      | true => cases hrun
      | false =>
        cases hrun
        obtain ⟨v1, rfl, r1⟩ := hargs.one'
        cases r1 with
        | ptr hbl =>
          rename_i b
          refine .inl ⟨enters_of Tryz.func176 (by kernel_rfl) rfl _ _, (TurnW.str_nil b w ?_).mono ?_⟩
          · unfold Za at hc
            simp only at hc
            split at hc
            · rename_i ty cs hm
              obtain ⟨b', ob, hb', hob, hlies⟩ := hr.obj l _ hm (by intro n e hh; cases hh)
              rw [hbl] at hb'
              cases hb'
              have hcs : cs[1]? = some (.v (.slice none 0 0)) := by
                simp only [Bool.cond_eq_ite] at hc
                split at hc
                · have h0 := congrArg (fun o : Option (List D) => o.bind fun l => l[0]?) hc
                  simpa using h0
                · cases hc
              cases hlies with
              | cells hvs =>
                rename_i c
                obtain ⟨v, e, r⟩ := hvs.some hcs
                cases r
                simp only [World.cell?, hob]
                simpa using e
            · cases hc
          · rintro e w' ⟨rfl, hb⟩
            obtain ⟨he, hr'⟩ := hr.below hb
            exact ⟨_, rfl, g, he, hr', .str ⟨#[]⟩⟩
    · exact hold _ h p d h' hrun top g w args htop hr hglob hargs
  · cases p <;> cases hrun
theorem sim192 : Y4 Tryz.prog 192 (libExt Tryz.prog 192) glob := libExt_sim 192
theorem sim150 : Y4 Tryz.prog 150 Xx glob := libTrim_sim (enters_of Tryz.func150 (by kernel_rfl) rfl) RgLib.trim
theorem sim222 : Y4 Tryz.prog 222 (libCheck 279) glob := libCheck_sim (enters_of Tryz.func222 (by kernel_rfl) rfl) RgLib.check_fresh RgLib.check_used
theorem Yv {α : Type} {c : Bool} {a x : α} {o : Option α} (h : (bif c then some a else o) = some x) : (c = true ∧ a = x) ∨ o = some x := by
  cases c with
  | true => exact .inl ⟨rfl, by simpa using h⟩
  | false => exact .inr h
theorem libs0_sim (f : Nat) (lf : List D → H → O D) (h : libs0 f = some lf) : Y4 Tryz.prog f lf glob := by
  unfold libs0 at h
  rcases Yv h with ⟨hf, rfl⟩ | h
  · rw [Nat.eq_of_beq_eq_true hf]; exact sim150
  rcases Yv h with ⟨hf, rfl⟩ | h
  · rw [Nat.eq_of_beq_eq_true hf]; exact sim112
  rcases Yv h with ⟨hf, rfl⟩ | h
  · rw [Nat.eq_of_beq_eq_true hf]; exact sim111
  rcases Yv h with ⟨hf, rfl⟩ | h
  · rw [Nat.eq_of_beq_eq_true hf]; exact sim151
  rcases Yv h with ⟨hf, rfl⟩ | h
  · rw [Nat.eq_of_beq_eq_true hf]; exact sim192
  rcases Yv h with ⟨hf, rfl⟩ | h
  · rw [Nat.eq_of_beq_eq_true hf]; exact sim176
  rcases Yv h with ⟨hf, rfl⟩ | h
  · rw [Nat.eq_of_beq_eq_true hf]; exact sim222
  cases h
theorem libString0_grow : ∀ ds h, Xm h (libString0 5 ds h) := fun ds h => by
  unfold libString0
  split
  · split
    · exact XN fun p d h' ho => by cases p <;> cases ho; rfl
    · exact libString_grow 5 _ _
  · exact XN fun p d h' ho => by cases p <;> cases ho
theorem libs0_grow (f : Nat) (lf : List D → H → O D) (h : libs0 f = some lf) : ∀ ds h, Xm h (lf ds h) := by
  unfold libs0 at h
  rcases Yv h with ⟨hf, rfl⟩ | h
  · exact libTrim_grow
  rcases Yv h with ⟨hf, rfl⟩ | h
  · exact below_grow fun ds h p d h' ho => (libPrefix_same ho).2.1
  rcases Yv h with ⟨hf, rfl⟩ | h
  · exact below_grow fun ds h p d h' ho => (libRunN_same ho).2.1
  rcases Yv h with ⟨hf, rfl⟩ | h
  · exact below_grow fun ds h p d h' ho => (libPrefix_same ho).2.1
  rcases Yv h with ⟨hf, rfl⟩ | h
  · exact libExt_grow 192
  rcases Yv h with ⟨hf, rfl⟩ | h
  · exact libString0_grow
  rcases Yv h with ⟨hf, rfl⟩ | h
  · exact libCheck_grow 279
  cases h
theorem follows' : Tryz.prog.follows .mixedOrders = true := by kernel_rfl
theorem told0 : Told Tryz.prog glob env0 := told Tryz.prog glob libs0 follows' libs0_sim libs0_grow
theorem glob_tree : ∀ i cs, glob i = some cs → ∀ d ∈ cs, Tree d := by
  intro i cs hi
  unfold glob at hi
  rcases Yv hi with ⟨_, rfl⟩ | hi
  · exact allTree_mem (P := Tryz.prog) (k := 2) (by kernel_rfl)
  cases hi
theorem told_more {libs : Nat → Option (List D → H → O D)} (ht : Told Tryz.prog glob (envOf Tryz.prog glob libs)) {k : Nat} {ds : List D} {t : D} (hs : Y4 Tryz.prog k (Yp ds t) glob) :
    Told Tryz.prog glob (envOf Tryz.prog glob fun f => bif Nat.beq f k then some (Yp ds t) else libs f) := by
  refine told Tryz.prog glob _ follows' (fun f lf h => ?_) (fun f lf h => ?_)
  · rcases Yv h with ⟨hf, rfl⟩ | h
    · rw [Nat.eq_of_beq_eq_true hf]; exact hs
    · exact ht.lib f lf h
  · rcases Yv h with ⟨hf, rfl⟩ | h
    · exact libRun_grow ds t
    · exact ht.libgrow f lf h
end Run
end Go.Abs
