/- Functions that are given by hand: they go as they are told. -/
import Derived.Test.YtbknmljjoahajaaGreatDoorElf0
import Derived.Test.YtbknmljjoahajaaGreatDoorTurnW
import Derived.Test.YtbknmljjoahajaaGreatDoorRangeE
import Derived.Test.YtbknmljjoahajaaGreatDoorRangeV
set_option linter.unusedVariables false
set_option linter.unusedSimpArgs false
namespace Go.Abs
namespace Run
open Go.Proofs Go.RowKit
theorem str_rev (s : ByteArray) : (strD s).reverse = strD ⟨s.data.reverse⟩ := by simp [strD]
theorem repL_eq (s : List UInt8) : ∀ c, repL (s.map (·.toNat)) c = (Lib.repeatL s c).map (·.toNat)
  | 0 => rfl
  | c + 1 => by simp only [repL, Lib.repeatL, List.map_append, repL_eq s c]
theorem isPre_eq : ∀ (s p : List UInt8), isPre (s.map (·.toNat)) (p.map (·.toNat)) = Lib.hasPrefix s p
  | s, [] => by cases s <;> rfl
  | [], b :: p => rfl
  | a :: s, b :: p => by
    have ih := isPre_eq s p
    unfold Lib.hasPrefix at ih ⊢
    simp only [List.map_cons, isPre, ih, List.isPrefixOf]
    congr 1
    by_cases e : a = b
    · subst e; simp
    · have : ¬ a.toNat = b.toNat := fun h => e (UInt8.toNat_inj.1 h)
      have h1 : Nat.beq a.toNat b.toNat = false := by
        cases hb : Nat.beq a.toNat b.toNat with
        | false => rfl
        | true => exact absurd (Nat.eq_of_beq_eq_true hb) this
      rw [h1]
      have : ¬ b = a := fun h => e h.symm
      simp [this]
theorem countIn_eq (cut : List Nat) : ∀ (s : List Nat) (n : Nat), countIn cut s n + (ltrim cut s).length = n + s.length
  | [], n => by simp [countIn, ltrim]
  | b :: r, n => by
    cases h : memN b cut with
    | true =>
      have ih := countIn_eq cut r (Nat.succ n)
      simp only [countIn, ltrim, h, cond_true, List.length_cons]
      omega
    | false => simp [countIn, ltrim, h]
theorem below_lib {P : Program} {glob : Nat → Option (List D)} {f : Nat} {lf : List D → H → O D} (hent : ∀ args w, (callFunc f args).run P w = .ok (.enter f args) w)
    (hl : ∀ ds h p d h', lf ds h = .mk p d h' → p = false ∧ h' = h ∧ ∀ g (args : Array Value), VRels g ds args.toList → ∀ w, ∃ v, VRel g d v ∧ Calls P f args w fun e w' => e = .returned v ∧ Below w.heap.size w w') : LibSim P f lf glob :=
  libsim_below fun ds h p d h' hrun => by
    obtain ⟨h1, h2, h3⟩ := hl ds h p d h' hrun
    exact ⟨h1, h2, fun top g w args hr hargs => ⟨hent args w, h3 g args hargs w⟩⟩
theorem below_grow {lf : List D → H → O D} (hl : ∀ ds h p d h', lf ds h = .mk p d h' → h' = h) : ∀ ds h, Ogrow h (lf ds h) := fun ds h => ogrow_same fun p d h' ho => hl ds h p d h' ho
theorem libTurn_same {ds : List D} {h h' : H} {p : Bool} {d : D} (ho : libTurn ds h = .mk p d h') : p = false ∧ h' = h ∧ ∃ s, ds = [.str s] ∧ d = .str s.reverse ∧ s.length ≤ 9223372036854775807 := by
  unfold libTurn at ho
  split at ho
  · rename_i s
    cases hq : Nat.ble s.length 9223372036854775807 with
    | false => rw [hq] at ho; cases p <;> cases ho
    | true =>
      rw [hq] at ho
      cases p with
      | true => cases ho
      | false => cases ho; exact ⟨rfl, rfl, s, rfl, rfl, Nat.le_of_ble_eq_true hq⟩
  · cases p <;> cases ho
theorem sim281 : LibSim Tryz.prog 281 libTurn glob := below_lib (enters_of Tryz.func281 (by kernel_rfl) rfl) fun ds h p d h' ho => by
  obtain ⟨h1, h2, s, rfl, rfl, h3⟩ := libTurn_same ho
  refine ⟨h1, h2, fun g args hargs w => ?_⟩
  obtain ⟨v1, rfl, r1⟩ := hargs.one'
  obtain ⟨b, rfl, rfl⟩ := r1.str'
  refine ⟨_, ?_, TurnW.turn_any b w (by simpa [strD] using h3)⟩
  rw [str_rev]
  exact .str _
theorem libRepeat_same {ds : List D} {h h' : H} {p : Bool} {d : D} (ho : libRepeat ds h = .mk p d h') : p = false ∧ h' = h ∧ ∃ s k c, ds = [.str s, .int k (.ofNat c)] ∧ k = .i64 ∧ d = .str (repL s c) ∧ s.length * c ≤ 140737488355328 ∧ c ≤ 9223372036854775807 := by
  unfold libRepeat at ho
  split at ho
  · rename_i s c
    cases hq : Nat.ble (s.length * c) 140737488355328 && Nat.ble c 9223372036854775807 with
    | false => rw [hq] at ho; cases p <;> cases ho
    | true =>
      rw [hq] at ho
      simp only [Bool.and_eq_true] at hq
      cases p with
      | true => cases ho
      | false => cases ho; exact ⟨rfl, rfl, s, _, c, rfl, rfl, rfl, Nat.le_of_ble_eq_true hq.1, Nat.le_of_ble_eq_true hq.2⟩
  · cases p <;> cases ho
theorem sim87 : LibSim Tryz.prog 87 libRepeat glob := below_lib (enters_of Tryz.func87 (by kernel_rfl) rfl) fun ds h p d h' ho => by
  obtain ⟨h1, h2, s, k, c, rfl, rfl, rfl, h3, h4⟩ := libRepeat_same ho
  refine ⟨h1, h2, fun g args hargs w => ?_⟩
  obtain ⟨v1, v2, rfl, r1, r2⟩ := hargs.two'
  obtain ⟨b, rfl, rfl⟩ := r1.str'
  rw [r2.int']
  refine ⟨_, ?_, Tryz.strings_Repeat b c w h4 (by simpa [strD] using h3)⟩
  have := repL_eq b.data.toList c
  simp only [strD]
  rw [this]
  exact .str ⟨(Lib.repeatL b.data.toList c).toArray⟩
theorem libPrefix_same {ds : List D} {h h' : H} {p : Bool} {d : D} (ho : libPrefix ds h = .mk p d h') : p = false ∧ h' = h ∧ ∃ s q, ds = [.str s, .str q] ∧ d = .v (.bool (isPre s q)) := by
  unfold libPrefix at ho
  split at ho
  · rename_i s q
    cases p with
    | true => cases ho
    | false => cases ho; exact ⟨rfl, rfl, s, q, rfl, rfl⟩
  · cases p <;> cases ho
theorem pre_sim {f : Nat} (hent : ∀ args w, (callFunc f args).run Tryz.prog w = .ok (.enter f args) w) (hc : ∀ (s p : ByteArray) (w : World), Calls Tryz.prog f #[.string s, .string p] w fun e w' => e = .returned (.bool (Lib.hasPrefix s.data.toList p.data.toList)) ∧ w' = w) : LibSim Tryz.prog f libPrefix glob :=
  below_lib hent fun ds h p d h' ho => by
    obtain ⟨h1, h2, s, q, rfl, rfl⟩ := libPrefix_same ho
    refine ⟨h1, h2, fun g args hargs w => ?_⟩
    obtain ⟨v1, v2, rfl, r1, r2⟩ := hargs.two'
    obtain ⟨b, rfl, rfl⟩ := r1.str'
    obtain ⟨c, rfl, rfl⟩ := r2.str'
    refine ⟨_, ?_, (hc b c w).mono fun e w' he => ⟨he.1, by rw [he.2]; exact Below.refl _ _⟩⟩
    simp only [strD, isPre_eq]
    exact .v _
theorem sim122 : LibSim Tryz.prog 122 libPrefix glob := pre_sim (enters_of Tryz.func122 (by kernel_rfl) rfl) Tryz.strings_HasPrefix
theorem sim159 : LibSim Tryz.prog 159 libPrefix glob := pre_sim (enters_of Tryz.func159 (by kernel_rfl) rfl) Tryz.stringslite_HasPrefix
theorem libRunN_same {ds : List D} {h h' : H} {p : Bool} {d : D} (ho : libRunN ds h = .mk p d h') : p = false ∧ h' = h ∧ ∃ s cut, ds = [.str s, .str cut] ∧ d = .int .i64 (.ofNat (countIn cut s 0)) ∧ ascii cut = true ∧ cut.length < 4294967281 ∧ countIn cut s 0 < 9223372036854775808 := by
  unfold libRunN at ho
  split at ho
  · rename_i s cut
    cases hq : ascii cut && Nat.blt cut.length 4294967281 && Nat.blt (countIn cut s 0) 9223372036854775808 with
    | false => rw [hq] at ho; cases p <;> cases ho
    | true =>
      rw [hq] at ho
      simp only [Bool.and_eq_true] at hq
      cases p with
      | true => cases ho
      | false => cases ho; exact ⟨rfl, rfl, s, cut, rfl, rfl, hq.1.1, Nat.le_of_ble_eq_true hq.1.2, Nat.le_of_ble_eq_true hq.2⟩
  · cases p <;> cases ho
theorem sim125 : LibSim Tryz.prog 125 libRunN glob := below_lib (enters_of Tryz.func125 (by kernel_rfl) rfl) fun ds h p d h' ho => by
  obtain ⟨h1, h2, s, cut, rfl, rfl, h3, h4, h5⟩ := libRunN_same ho
  refine ⟨h1, h2, fun g args hargs w => ?_⟩
  obtain ⟨v1, v2, rfl, r1, r2⟩ := hargs.two'
  obtain ⟨b, rfl, rfl⟩ := r1.str'
  obtain ⟨c, rfl, rfl⟩ := r2.str'
  have e := countIn_eq (strD c) (strD b) 0
  have e2 := ltrim_eq c.data.toList b.data.toList
  have e3 : (ltrim (strD c) (strD b)).length = (Lib.trimLeftS b.data.toList c.data.toList).length := by
    show (ltrim (c.data.toList.map (·.toNat)) (b.data.toList.map (·.toNat))).length = _
    rw [e2, List.length_map]
  refine ⟨_, ?_, TurnW.run_any b c w (by simpa [strD] using h4) (ascii_eq h3) (countIn (strD c) (strD b) 0) (by rw [← e3, e]; simp [strD]) h5⟩
  exact .int _ _
theorem sim49 : LibSim Tryz.prog 49 (libString0 5) glob := by
  have hold : LibSim Tryz.prog 49 (libString 5) glob := libString_sim (by kernel_rfl) (enters_of Tryz.func49 (by kernel_rfl) rfl) RgLib.str
  intro ds h p d h' hrun top g w args htop hr hglob hargs
  unfold libString0 at hrun
  split at hrun
  · rename_i l
    split at hrun
    · rename_i hc
      cases p with
      | true => cases hrun
      | false =>
        cases hrun
        obtain ⟨v1, rfl, r1⟩ := hargs.one'
        cases r1 with
        | ptr hbl =>
          rename_i b
          refine .inl ⟨enters_of Tryz.func49 (by kernel_rfl) rfl _ _, (TurnW.str_nil b w ?_).mono ?_⟩
          · unfold readCells at hc
            simp only at hc
            split at hc
            · rename_i ty cs hm
              obtain ⟨b', ob, hb', hob, hlies⟩ := hr.obj l _ hm (by intro n e hh; cases hh)
              rw [hbl] at hb'
              cases hb'
              have hcs : cs[1]? = some (.v (.slice none 0 0)) := by
                simp only [Bool.cond_eq_ite] at hc
                split at hc
                · have h0 := congrArg (fun o : Option (List D) => o.bind fun l => l[0]?) hc
                  simpa using h0
                · cases hc
              cases hlies with
              | cells hvs =>
                rename_i c
                obtain ⟨v, e, r⟩ := hvs.some hcs
                cases r
                simp only [World.cell?, hob]
                simpa using e
            · cases hc
          · rintro e w' ⟨rfl, hb⟩
            obtain ⟨he, hr'⟩ := hr.below hb
            exact ⟨_, rfl, g, he, hr', .str ⟨#[]⟩⟩
    · exact hold _ h p d h' hrun top g w args htop hr hglob hargs
  · cases p <;> cases hrun
theorem last2_eq (nm : Nat → ByteArray) (z : Nat → Int) (s : ByteArray) : ∀ k, Rg.last nm z s k = last2 nm z s k
  | 0 => rfl
  | k + 1 => by simp only [Rg.last, last2, last2_eq nm z s k]
theorem last3_eq (nm : Nat → ByteArray) (z y : Nat → Int) (s : ByteArray) : ∀ k, Rg2.last nm z y s k = last3 nm z y s k
  | 0 => rfl
  | k + 1 => by simp only [Rg2.last, last3, last3_eq nm z y s k]
theorem sim297 : LibSim Tryz.prog 297 (libExt Tryz.prog 297) glob := libExt_sim 297
theorem sim163 : LibSim Tryz.prog 163 libTrim glob := libTrim_sim (enters_of Tryz.func163 (by kernel_rfl) rfl) RgLib.trim
theorem sim84 : LibSim Tryz.prog 84 (libCheck 96) glob := libCheck_sim (enters_of Tryz.func84 (by kernel_rfl) rfl) RgLib.check_fresh RgLib.check_used
theorem sim384 : LibSim Tryz.prog 384 libName glob := libName_sim (enters_of Tryz.func384 (by kernel_rfl) rfl) fun rb ro a len cap nm y z s w hl hv hI => by
  have := callsIn_wide.1 (Rg2.name_in Fence.wide 4 trivial trivial trivial trivial rfl (Nat.le_refl _) rb ro a len cap nm y z s hl w hv hI)
  simp only [last3_eq] at this
  exact this
theorem sim353 : LibSim Tryz.prog 353 libGet glob := libGet_sim (enters_of Tryz.func353 (by kernel_rfl) rfl) fun a len cap nm z s w hl hI => by
  have := callsIn_wide.1 (Rg.Get_in Fence.wide 3 trivial trivial trivial rfl (Nat.le_refl _) a len cap nm z s hl w hI)
  simp only [last2_eq] at this
  exact this
theorem bif_some {α : Type} {c : Bool} {a x : α} {o : Option α} (h : (bif c then some a else o) = some x) : (c = true ∧ a = x) ∨ o = some x := by
  cases c with
  | true => exact .inl ⟨rfl, by simpa using h⟩
  | false => exact .inr h
theorem libs0_sim (f : Nat) (lf : List D → H → O D) (h : libs0 f = some lf) : LibSim Tryz.prog f lf glob := by
  unfold libs0 at h
  rcases bif_some h with ⟨hf, rfl⟩ | h
  · rw [Nat.eq_of_beq_eq_true hf]; exact sim163
  rcases bif_some h with ⟨hf, rfl⟩ | h
  · rw [Nat.eq_of_beq_eq_true hf]; exact sim122
  rcases bif_some h with ⟨hf, rfl⟩ | h
  · rw [Nat.eq_of_beq_eq_true hf]; exact sim125
  rcases bif_some h with ⟨hf, rfl⟩ | h
  · rw [Nat.eq_of_beq_eq_true hf]; exact sim159
  rcases bif_some h with ⟨hf, rfl⟩ | h
  · rw [Nat.eq_of_beq_eq_true hf]; exact sim297
  rcases bif_some h with ⟨hf, rfl⟩ | h
  · rw [Nat.eq_of_beq_eq_true hf]; exact sim49
  rcases bif_some h with ⟨hf, rfl⟩ | h
  · rw [Nat.eq_of_beq_eq_true hf]; exact sim84
  rcases bif_some h with ⟨hf, rfl⟩ | h
  · rw [Nat.eq_of_beq_eq_true hf]; exact sim281
  rcases bif_some h with ⟨hf, rfl⟩ | h
  · rw [Nat.eq_of_beq_eq_true hf]; exact sim87
  rcases bif_some h with ⟨hf, rfl⟩ | h
  · rw [Nat.eq_of_beq_eq_true hf]; exact sim353
  rcases bif_some h with ⟨hf, rfl⟩ | h
  · rw [Nat.eq_of_beq_eq_true hf]; exact sim384
  cases h
theorem libString0_grow : ∀ ds h, Ogrow h (libString0 5 ds h) := fun ds h => by
  unfold libString0
  split
  · split
    · exact ogrow_same fun p d h' ho => by cases p <;> cases ho; rfl
    · exact libString_grow 5 _ _
  · exact ogrow_same fun p d h' ho => by cases p <;> cases ho
theorem libs0_grow (f : Nat) (lf : List D → H → O D) (h : libs0 f = some lf) : ∀ ds h, Ogrow h (lf ds h) := by
  unfold libs0 at h
  rcases bif_some h with ⟨hf, rfl⟩ | h
  · exact libTrim_grow
  rcases bif_some h with ⟨hf, rfl⟩ | h
  · exact below_grow fun ds h p d h' ho => (libPrefix_same ho).2.1
  rcases bif_some h with ⟨hf, rfl⟩ | h
  · exact below_grow fun ds h p d h' ho => (libRunN_same ho).2.1
  rcases bif_some h with ⟨hf, rfl⟩ | h
  · exact below_grow fun ds h p d h' ho => (libPrefix_same ho).2.1
  rcases bif_some h with ⟨hf, rfl⟩ | h
  · exact libExt_grow 297
  rcases bif_some h with ⟨hf, rfl⟩ | h
  · exact libString0_grow
  rcases bif_some h with ⟨hf, rfl⟩ | h
  · exact libCheck_grow 96
  rcases bif_some h with ⟨hf, rfl⟩ | h
  · exact below_grow fun ds h p d h' ho => (libTurn_same ho).2.1
  rcases bif_some h with ⟨hf, rfl⟩ | h
  · exact below_grow fun ds h p d h' ho => (libRepeat_same ho).2.1
  rcases bif_some h with ⟨hf, rfl⟩ | h
  · exact libGet_grow
  rcases bif_some h with ⟨hf, rfl⟩ | h
  · exact libName_grow
  cases h
theorem follows' : Tryz.prog.follows .mixedOrders = true := by kernel_rfl
theorem told0 : Told Tryz.prog glob env0 := told Tryz.prog glob libs0 follows' libs0_sim libs0_grow
theorem glob_tree : ∀ i cs, glob i = some cs → ∀ d ∈ cs, Tree d := by
  intro i cs hi
  unfold glob at hi
  rcases bif_some hi with ⟨_, rfl⟩ | hi
  · exact allTree_mem (P := Tryz.prog) (k := 2) (by kernel_rfl)
  rcases bif_some hi with ⟨_, rfl⟩ | hi
  · exact allTree_mem (P := Tryz.prog) (k := 2) (by kernel_rfl)
  cases hi
/-- One function more that is given by hand. -/
theorem told_more {libs : Nat → Option (List D → H → O D)} (ht : Told Tryz.prog glob (envOf Tryz.prog glob libs)) {k : Nat} {ds : List D} {t : D} (hs : LibSim Tryz.prog k (libRun ds t) glob) :
    Told Tryz.prog glob (envOf Tryz.prog glob fun f => bif Nat.beq f k then some (libRun ds t) else libs f) := by
  refine told Tryz.prog glob _ follows' (fun f lf h => ?_) (fun f lf h => ?_)
  · rcases bif_some h with ⟨hf, rfl⟩ | h
    · rw [Nat.eq_of_beq_eq_true hf]; exact hs
    · exact ht.lib f lf h
  · rcases bif_some h with ⟨hf, rfl⟩ | h
    · exact libRun_grow ds t
    · exact ht.libgrow f lf h
end Run
end Go.Abs
