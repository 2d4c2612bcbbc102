/- strings.Cut at a line's end: what it does in a world. -/
import Derived.Shelf.RegionOpenPlain
import Derived.WalkKit
import Derived.Lib.Walk
import Derived.Lib.Strings
import Derived.Lib.Slices
import Derived.Lib.Bytealg
import Derived.BigCall
import Derived.BigGuard
import Derived.Deep.Draws
import Derived.Laws.Strings3
import Derived.Lib.CutLaws
import Derived.Lib.IndexBytes
import Derived.Test.YtgpdodcbkajfgaaGreatDoorNdLibS
import Derived.Test.YtgpdodcbkajfgaaGreatDoorNeG
set_option linter.unusedVariables false
set_option linter.unusedSimpArgs false
namespace Go.Proofs.CutW
open Go.Shelf Go.RowKit Go.Lib
def nl : ByteArray := ⟨#[10]⟩
abbrev IX (s sep : ByteArray) : Prop := ∀ w : World, Calls Tryz.prog 205 #[.string s, .string sep] w fun e w' => e = .returned (.int .i64 (Lib.index s.data.toList sep.data.toList)) ∧ w' = w
set_option maxHeartbeats 2000000 in
set_option maxRecDepth 100000 in
theorem lite (s sep : ByteArray) (w : World) (hI : IX s sep) (hs : s.size ≤ 1000000) :
    Calls Tryz.prog 152 #[.string s, .string sep] w fun e w' => e = .returned (.tuple #[.string ⟨(Lib.cut s.data.toList sep.data.toList).1.toArray⟩, .string ⟨(Lib.cut s.data.toList sep.data.toList).2.1.toArray⟩, .bool (Lib.cut s.data.toList sep.data.toList).2.2]) ∧ ∃ n, w' = w.drewN n := by
  have mixed : Tryz.prog.follows .mixedOrders = true := by kernel_rfl
  have e205 : ∀ args w, (callFunc 205 args).run Tryz.prog w = .ok (.enter 205 args) w := enters_of Tryz.func205 (by kernel_rfl) rfl
  rcases Lib.indexB_cases s sep with hix | ⟨i, hix, hroom⟩
  · obtain ⟨e1, e2, e3⟩ := Lib.cutB_miss s sep hix
    rw [e1, e2, e3]
    go_enter Tryz.func152, Tryz.ntmps152
    go_wp2_with (go_at_fn 205; refine (hI _).mono ?_; rintro e w' ⟨rfl, rfl⟩; rw [show Lib.index s.data.toList sep.data.toList = _ from hix])
    go_ret3
    exact ⟨rfl, 0, rfl⟩
  · obtain ⟨e1, e2, e3⟩ := Lib.cutB_hit s sep i hix
    rw [e1, e2, e3]
    have c1 : (0 : Int) ≤ ↑i := by omega
    have c2 : (↑i : Int) ≤ ↑s.size := by omega
    have c3 : (0 : Int) ≤ ↑i + ↑sep.size := by omega
    have c4 : (↑i + ↑sep.size : Int) ≤ ↑s.size := by omega
    go_enter Tryz.func152, Tryz.ntmps152
    go_wp2_with (go_at_fn 205; refine (hI _).mono ?_; rintro e w' ⟨rfl, rfl⟩; rw [show Lib.index s.data.toList sep.data.toList = _ from hix])
    go_region_o
    go_wp2
    go_ret3
    exact ⟨rfl, 1, rfl⟩
set_option maxHeartbeats 1000000 in
theorem cut (s sep : ByteArray) (w : World) (hI : IX s sep) (hs : s.size ≤ 1000000) :
    Calls Tryz.prog 113 #[.string s, .string sep] w fun e w' => e = .returned (.tuple #[.string ⟨(Lib.cut s.data.toList sep.data.toList).1.toArray⟩, .string ⟨(Lib.cut s.data.toList sep.data.toList).2.1.toArray⟩, .bool (Lib.cut s.data.toList sep.data.toList).2.2]) ∧ ∃ n, w' = w.drewN n := by
  have mixed : Tryz.prog.follows .mixedOrders = true := by kernel_rfl
  have e152 : ∀ args w, (callFunc 152 args).run Tryz.prog w = .ok (.enter 152 args) w := enters_of Tryz.func152 (by kernel_rfl) rfl
  go_enter Tryz.func113, Tryz.ntmps113
  go_wp2_with (go_at_fn 152; refine (lite _ _ _ hI hs).mono ?_; rintro e w' ⟨rfl, n, rfl⟩)
  go_ret3
  exact ⟨rfl, n, rfl⟩
theorem ix_nl (s : ByteArray) : IX s nl := fun w => by
  rw [show Lib.index s.data.toList nl.data.toList = Lib.indexByte s.data.toList 10 from Lib.index_one _ _]
  exact Tryz.stringslite_Index_one s 10 w
theorem drewN_below {B : Nat} {a w : World} (h : RowKit.Below B a w) (n : Nat) : RowKit.Below B a (w.drewN n) := ⟨h.os, h.tape, h.output, h.size, h.block⟩
end Go.Proofs.CutW
namespace Go.Abs
namespace Run
open Go.Proofs Go.RowKit
theorem line_cut : ∀ l : List UInt8, Lib.indexByte l 10 = -1 ∧ YD (l.map (·.toNat)) = l.map (·.toNat) ∨ ∃ i : Nat, Lib.indexByte l 10 = i ∧ YD (l.map (·.toNat)) = (l.take i).map (·.toNat) ∧ i < l.length
  | [] => .inl ⟨rfl, rfl⟩
  | b :: r => by
    by_cases hb : b = 10
    · subst hb
      exact .inr ⟨0, rfl, rfl, by simp⟩
    · have hb1 : (b == 10) = false := by simpa using hb
      have hb2 : ¬ b.toNat = 10 := fun h => hb (UInt8.toNat_inj.1 h)
      rcases line_cut r with ⟨h1, h2⟩ | ⟨i, h1, h2, h3⟩
      · refine .inl ⟨?_, ?_⟩
        · simp [Lib.indexByte, hb1, h1]
        · simp only [List.map_cons, YD, if_neg hb2, h2]
      · refine .inr ⟨i + 1, ?_, ?_, by simpa using h3⟩
        · have hi : ¬ ((i : Int) = -1) := by omega
          simp [Lib.indexByte, hb1, h1, hi]
        · simp only [List.map_cons, YD, if_neg hb2, h2, List.take_succ_cons]
theorem libCut_same {ds : List D} {h h' : H} {p : Bool} {d : D} (ho : libCut ds h = .mk p d h') : p = false ∧ h' = h ∧ ∃ s, ds = [.str s, .str [10]] ∧ d = .tup [.str (YD s), .str (s.drop ((YD s).length + 1)), .v (.bool (decide ((YD s).length < s.length)))] ∧ s.length ≤ 1000000 := by
  unfold libCut at ho
  split at ho
  · rename_i s
    cases hq : Nat.ble s.length 1000000 with
    | false => rw [hq] at ho; cases p <;> cases ho
    | true =>
      rw [hq] at ho
      cases p with
      | true => cases ho
      | false => cases ho; exact ⟨rfl, rfl, s, rfl, rfl, Nat.le_of_ble_eq_true hq⟩
  · cases p <;> cases ho
theorem sim113 : Y4 Tryz.prog 113 libCut glob := below_lib (enters_of Tryz.func113 (by kernel_rfl) rfl) fun ds h p d h' ho => by
  obtain ⟨h1, h2, s, rfl, rfl, hsz⟩ := libCut_same ho
  refine ⟨h1, h2, fun g args hargs w => ?_⟩
  obtain ⟨v1, v2, rfl, r1, r2⟩ := hargs.two'
  obtain ⟨b, rfl, rfl⟩ := r1.str'
  obtain ⟨c, rfl, hc⟩ := r2.str'
  have hc' : c = CutW.nl := by
    have h3 : c.data.toList.map (·.toNat) = [10] := hc.symm
    obtain ⟨⟨l⟩⟩ := c
    cases l with
    | nil => simp at h3
    | cons x r =>
      cases r with
      | nil =>
        have hx : x.toNat = 10 := by simpa using h3
        have : x = 10 := UInt8.toNat_inj.1 hx
        subst this; rfl
      | cons y q => simp at h3
  subst hc'
  refine ⟨_, ?_, (CutW.cut b _ w (CutW.ix_nl b) (by simpa [Yf] using hsz)).mono fun e w' ⟨h1, n, h2⟩ => ⟨h1, by rw [h2]; exact CutW.drewN_below (Below.refl _ _) n⟩⟩
  have hm : Yf b = b.data.toList.map (·.toNat) := rfl
  have hone : Lib.index b.data.toList CutW.nl.data.toList = Lib.indexByte b.data.toList 10 := Lib.index_one _ _
  rcases line_cut b.data.toList with ⟨h1, h2⟩ | ⟨i, h1, h2, h3⟩
  · have e : Lib.cut b.data.toList CutW.nl.data.toList = (b.data.toList, [], false) := by
      unfold Lib.cut; rw [hone, h1, if_neg (by omega)]
    rw [e]
    have e1 : YD (Yf b) = Yf ⟨b.data.toList.toArray⟩ := by rw [hm, h2]
    have e2 : (Yf b).drop ((YD (Yf b)).length + 1) = Yf ⟨(([] : List UInt8)).toArray⟩ := by
      rw [hm, h2]; simp [Yf]
    have e3 : decide ((YD (Yf b)).length < (Yf b).length) = false := by rw [hm, h2]; simp
    rw [e2, e3, e1]
    exact .tup' (.cons (.str _) (.cons (.str _) (.cons (.v _) (.nil _))))
  · have e : Lib.cut b.data.toList CutW.nl.data.toList = (b.data.toList.take i, b.data.toList.drop (i + 1), true) := by
      unfold Lib.cut; rw [hone, h1, if_pos (by omega)]; rfl
    rw [e]
    have hl : (YD (Yf b)).length = i := by rw [hm, h2, List.length_map, List.length_take]; exact Nat.min_eq_left (Nat.le_of_lt h3)
    have e1 : YD (Yf b) = Yf ⟨(b.data.toList.take i).toArray⟩ := by rw [hm, h2]; simp [Yf]
    have e2 : (Yf b).drop (i + 1) = Yf ⟨(b.data.toList.drop (i + 1)).toArray⟩ := by rw [hm]; simp [Yf, List.map_drop]
    have e3 : decide (i < (Yf b).length) = true := by rw [hm]; simpa using h3
    rw [hl, e2, e3, e1]
    exact .tup' (.cons (.str _) (.cons (.str _) (.cons (.v _) (.nil _))))
end Run
end Go.Abs
