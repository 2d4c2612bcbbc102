/- What the listed package-level variables give: the reader's signs lie as they are laid. -/
import Derived.Test.YthifolidfjpdkaaGreatDoorRows
import Derived.Test.YthifolidfjpdkaaGreatDoorNdTree
import Derived.Test.YthifolidfjpdkaaGreatDoorNdGlob
import Derived.ProofKit
import Derived.OpenShut
import Derived.LaidMore
import Derived.Lay
import Derived.Stop.Joined
namespace Go.Proofs.YthifolidfjpdkaaGreatDoor
open Go.ChangeShapes Go.WideShapes Go.ChangeAt Go.RowKit

theorem own : ownKnob Tryz.prog.godebug = none := by kernel_rfl
theorem laidOut : laidOutB Tryz.prog = true := by kernel_rfl
def laid : List (String × DataW Unit) := [("math/bits.deBruijn32tab", Rows.laid_math_bits_deBruijn32tab), ("math/bits.deBruijn64tab", Rows.laid_math_bits_deBruijn64tab), ("internal/strconv.uint64pow10", Rows.laid_internal_strconv_uint64pow10), ("unicode/utf8.acceptRanges", Rows.laid_unicode_utf8_acceptRanges), ("strconv.ErrRange", Rows.laid_strconv_ErrRange), ("strconv.ErrSyntax", Rows.laid_strconv_ErrSyntax), ("calliper/lex.signs", Rows.laid_calliper_lex_signs), ("unicode/utf8.first", Rows.laid_unicode_utf8_first)]

/-- The signs, as letters. -/
def signs8 : List (List UInt8) := [[46, 46], [61, 61], [33, 61], [60, 61], [62, 61], [60, 60], [62, 62], [38, 38], [124, 124], [123], [125], [40], [41], [91], [93], [59], [58], [44], [61], [60], [62], [43], [45], [42], [47], [37], [38], [124], [33]]
theorem signs_laid : (Rows.laid_calliper_lex_signs : DataW Unit) = .agg (signs8.map fun l => .lit (.string l)) := by kernel_rfl
theorem signs_glob : Go.Abs.Run.glob 0 = some (signs8.map fun l => Go.Abs.D.str (l.map (·.toNat))) := by kernel_rfl

theorem signs_cell {W : World} (h : laidMetH Tryz.prog laid W) (r : Nat) (l : List UInt8) (hr : signs8[r]? = some l) : W.cell? ⟨0, r, none⟩ = some (.string ⟨l.toArray⟩) := by
  rw [MakeChecks.laidMetH_plain _ _ _ (by kernel_rfl)] at h
  obtain ⟨ps, ⟨_, _, _, _, _, _, _, _, _, _, ⟨_, _, _, _, _, _, _, _, _, _, ⟨_, _, _, _, _, _, _, _, _, _, ⟨_, _, _, _, _, _, _, _, _, _, ⟨_, _, _, _, _, _, _, _, _, _, ⟨_, _, _, _, _, _, _, _, _, _, ⟨g, t, cs, fuel, p, q, hg, ht, hv, hd, _, _⟩, _⟩, _⟩, _⟩, _⟩, _⟩, _⟩, _, _⟩ := h
  obtain rfl := Option.some.inj ((show Tryz.prog.globalNamed "calliper/lex.signs" = some 0 by kernel_rfl).symm.trans hg)
  obtain rfl := Option.some.inj ((show (Tryz.prog.globals[0]?).map (·.type) = some 168 by kernel_rfl).symm.trans ht)
  obtain ⟨xs, m, _, ex, _, hl, hel⟩ := DataW.trod_array Tryz.underlying168 hd
  have c9 : Tryz.prog.cellsOf 9 = 1 := by kernel_rfl
  have hlen : signs8.length = 29 := by kernel_rfl
  have hr29 : r < 29 := by rw [← hlen]; exact (List.getElem?_eq_some_iff.1 hr).1
  have hE := hel r hr29
  rw [c9, Nat.mul_one, List.getElem?_eq_getElem (by omega)] at hE
  obtain ⟨s, e1, e2, _⟩ := DataW.trod_string Tryz.underlying9 hE
  have e3 : (xs.map (·.1)) = signs8.map fun l => .lit (.string l) := by
    have := (Prod.mk.inj ex).1
    rw [signs_laid] at this
    exact (DataW.agg.inj this).symm
  have e4 : (xs.map (·.1))[r]? = (signs8.map fun l => (DataW.lit (.string l) : DataW Unit))[r]? := by rw [e3]
  rw [List.getElem?_map, List.getElem?_map, List.getElem?_eq_getElem (by omega : r < xs.length), hr, e2] at e4
  have hs : s.data.toList = l := by simpa using e4
  rw [World.var?_cell hg hv r]
  have : cs.toList[r]? = some (.string s) := by
    have h0 : ((cs.toList.drop r).take 1)[0]? = some (.string s) := by rw [e1]; rfl
    simpa using h0
  have hss : s = ⟨l.toArray⟩ := by rw [← hs]
  rw [← hss]
  simpa using this

/-- The powers of ten. -/
def pows : List Nat := [1, 10, 100, 1000, 10000, 100000, 1000000, 10000000, 100000000, 1000000000, 10000000000, 100000000000, 1000000000000, 10000000000000, 100000000000000, 1000000000000000, 10000000000000000, 100000000000000000, 1000000000000000000, 10000000000000000000]
theorem pows_laid : (Rows.laid_internal_strconv_uint64pow10 : DataW Unit) = .agg (pows.map fun n => .lit (.int .u64 (.ofNat n))) := by kernel_rfl
theorem pows_glob : Go.Abs.Run.glob 6 = some (pows.map fun n => Go.Abs.D.int .u64 (.ofNat n)) := by kernel_rfl
theorem pows_cell {W : World} (h : laidMetH Tryz.prog laid W) (r : Nat) (n : Nat) (hr : pows[r]? = some n) : W.cell? ⟨6, r, none⟩ = some (.int .u64 (.ofNat n)) := by
  rw [MakeChecks.laidMetH_plain _ _ _ (by kernel_rfl)] at h
  obtain ⟨ps, ⟨_, _, _, _, _, _, _, _, _, _, ⟨_, _, _, _, _, _, _, _, _, _, ⟨g, t, cs, fuel, p, q, hg, ht, hv, hd, _, _⟩, _⟩, _⟩, _, _⟩ := h
  obtain rfl := Option.some.inj ((show Tryz.prog.globalNamed "internal/strconv.uint64pow10" = some 6 by kernel_rfl).symm.trans hg)
  obtain rfl := Option.some.inj ((show (Tryz.prog.globals[6]?).map (·.type) = some 441 by kernel_rfl).symm.trans ht)
  obtain ⟨xs, m, _, ex, _, hl, hel⟩ := DataW.trod_array Tryz.underlying441 hd
  have c9 : Tryz.prog.cellsOf 36 = 1 := by kernel_rfl
  have hlen : pows.length = 20 := by kernel_rfl
  have hr20 : r < 20 := by rw [← hlen]; exact (List.getElem?_eq_some_iff.1 hr).1
  have hE := hel r hr20
  rw [c9, Nat.mul_one, List.getElem?_eq_getElem (by omega)] at hE
  obtain ⟨s, e1, e2, _⟩ := DataW.trod_int Tryz.underlying36 hE
  have e3 : (xs.map (·.1)) = pows.map fun n => .lit (.int .u64 (.ofNat n)) := by
    have := (Prod.mk.inj ex).1
    rw [pows_laid] at this
    exact (DataW.agg.inj this).symm
  have e4 : (xs.map (·.1))[r]? = (pows.map fun n => (DataW.lit (.int .u64 (.ofNat n)) : DataW Unit))[r]? := by rw [e3]
  rw [List.getElem?_map, List.getElem?_map, List.getElem?_eq_getElem (by omega : r < xs.length), hr, e2] at e4
  have hs : s = .ofNat n := by simpa using e4
  rw [World.var?_cell hg hv r]
  have : cs.toList[r]? = some (.int .u64 s) := by
    have h0 : ((cs.toList.drop r).take 1)[0]? = some (.int .u64 s) := by rw [e1]; rfl
    simpa using h0
  rw [hs] at this
  simpa using this
theorem holds_of_laid {W : World} (h : laidMetH Tryz.prog laid W) : Go.Abs.Holds Go.Abs.Run.glob W := by
  intro b cs o d h1 h2
  by_cases hb : b = 0
  · subst hb
    rw [signs_glob] at h1
    cases h1
    rw [List.getElem?_map] at h2
    cases hs : signs8[o]? with
    | none => rw [hs] at h2; cases h2
    | some l =>
      rw [hs] at h2
      cases h2
      exact ⟨_, signs_cell h o l hs, fun g => Go.Abs.VRel.str (g := g) ⟨l.toArray⟩⟩
  · have h0 : Nat.beq b 0 = false := by
      cases hq : Nat.beq b 0 with
      | false => rfl
      | true => exact absurd (Nat.eq_of_beq_eq_true hq) hb
    by_cases h6 : b = 6
    · subst h6
      rw [pows_glob] at h1
      cases h1
      rw [List.getElem?_map] at h2
      cases hs : pows[o]? with
      | none => rw [hs] at h2; cases h2
      | some n =>
        rw [hs] at h2
        cases h2
        exact ⟨_, pows_cell h o n hs, fun g => Go.Abs.VRel.int (g := g) _ _⟩
    have h6' : Nat.beq b 6 = false := by
      cases hq : Nat.beq b 6 with
      | false => rfl
      | true => exact absurd (Nat.eq_of_beq_eq_true hq) h6
    unfold Go.Abs.Run.glob at h1
    rw [h0, h6'] at h1
    cases h1
end Go.Proofs.YthifolidfjpdkaaGreatDoor
