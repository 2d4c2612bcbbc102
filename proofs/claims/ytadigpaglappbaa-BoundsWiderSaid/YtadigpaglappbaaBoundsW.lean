/- The walks of layer 11 (bounds). -/
import Derived.Test.YtadigpaglappbaaWordW
import Derived.Test.YtadigpaglappbaaBoundsN
import Derived.Test.YtadigpaglappbaaMem
import Derived.RegionTactic
import Derived.BigRegion
import Derived.Deep.RegionWith
import Derived.Deep.QuietTactic
import Derived.BigQuiet
set_option linter.unusedVariables false
namespace Go.Proofs.Ytadigpaglappbaa.BoundsW
open Go.RowKit Go.Proofs.Ytadigpaglappbaa.Word Go.Proofs.Ytadigpaglappbaa.WordW Go.Proofs.Ytadigpaglappbaa.BoundsN Go.Proofs.Ytadigpaglappbaa.Mem

/-- A range, and whether there is one. -/
def Rans (p : R × Bool) (w : World) (e : Ending) (w' : World) : Prop := e = .returned (.tuple #[.agg #[.int .u64 p.1.lo, .int .u64 p.1.hi], .bool p.2]) ∧ Bel w w'
theorem Rans_mk {p : R × Bool} {x y : Int} {b : Bool} {w w' : World} (h : (⟨x, y⟩, b) = p) (hb : Bel w w') : Rans p w (.returned (.tuple #[.agg #[.int .u64 x, .int .u64 y], .bool b])) w' := by subst h; exact ⟨rfl, hb⟩
/-- A range. -/
def Ran (p : R) (w : World) (e : Ending) (w' : World) : Prop := e = .returned (.agg #[.int .u64 p.lo, .int .u64 p.hi]) ∧ Bel w w'
theorem Ran_mk {p : R} {x y : Int} {w w' : World} (h : ⟨x, y⟩ = p) (hb : Bel w w') : Ran p w (.returned (.agg #[.int .u64 x, .int .u64 y])) w' := by subst h; exact ⟨rfl, hb⟩
def Bans (b : Bool) (w : World) (e : Ending) (w' : World) : Prop := e = .returned (.bool b) ∧ Bel w w'

theorem minus_any (a b : R) (w : World) (ha : UR a) (hb : UR b) : Calls Try.prog 40 #[.agg #[.int .u64 a.lo, .int .u64 a.hi], .agg #[.int .u64 b.lo, .int .u64 b.hi]] w (Rans (minus a b) w) := by
  obtain ⟨al, ah⟩ := a
  obtain ⟨bl, bh⟩ := b
  have h1 := ha.1.lo; have h2 := ha.1.hi; have h3 := ha.2.lo; have h4 := ha.2.hi
  have h5 := hb.1.lo; have h6 := hb.1.hi; have h7 := hb.2.lo; have h8 := hb.2.hi
  simp only at h1 h2 h3 h4 h5 h6 h7 h8 ⊢
  by_cases h : ah < bl
  · go_enter Try.func40, Try.ntmps40
    go_wp2
    exact bodyPost_ret (v := .tuple #[.agg #[.int .u64 (0), .int .u64 (0)], .bool false]) (by simp [results, Try.results40, go_sem]) rfl (Rans_mk (by unfold minus; rw [if_pos h]; rfl) ((((Bel.refl _).new _).new _).new _))
  · go_enter Try.func40, Try.ntmps40
    go_wp2
    exact bodyPost_ret (v := .tuple #[.agg #[.int .u64 (al - min al bh), .int .u64 (ah - bl)], .bool true]) (by simp [results, Try.results40, go_sem]) rfl (Rans_mk (by unfold minus; rw [if_neg (by simp only; omega)]) ((((Bel.refl _).new _).new _).new _))

theorem down_any (a b : R) (w : World) (ha : UR a) (hb : UR b) : Calls Try.prog 42 #[.agg #[.int .u64 a.lo, .int .u64 a.hi], .agg #[.int .u64 b.lo, .int .u64 b.hi]] w (Rans (down a b) w) := by
  obtain ⟨al, ah⟩ := a
  obtain ⟨bl, bh⟩ := b
  have h1 := ha.1.lo; have h2 := ha.1.hi; have h3 := ha.2.lo; have h4 := ha.2.hi
  have h5 := hb.1.lo; have h6 := hb.1.hi; have h7 := hb.2.lo; have h8 := hb.2.hi
  simp only at h1 h2 h3 h4 h5 h6 h7 h8 ⊢
  by_cases h : 63 < bl
  · go_enter Try.func42, Try.ntmps42
    go_wp2
    exact bodyPost_ret (v := .tuple #[.agg #[.int .u64 (0), .int .u64 (0)], .bool false]) (by simp [results, Try.results42, go_sem]) rfl (Rans_mk (by unfold down; rw [if_pos h]; rfl) ((((Bel.refl _).new _).new _).new _))
  · go_enter Try.func42, Try.ntmps42
    go_wp2
    exact bodyPost_ret (v := .tuple #[.agg #[.int .u64 (al / 2 ^ (min bh 63).toNat), .int .u64 (ah / 2 ^ bl.toNat)], .bool true]) (by simp [results, Try.results42, go_sem]) rfl (Rans_mk (by unfold down; rw [if_neg (by simp only; omega)]) ((((Bel.refl _).new _).new _).new _))

theorem over_any (a b : R) (left : Bool) (w : World) (ha : UR a) (hb : UR b) : Calls Try.prog 41 #[.agg #[.int .u64 a.lo, .int .u64 a.hi], .agg #[.int .u64 b.lo, .int .u64 b.hi], .bool left] w (Rans (over a b left) w) := by
  obtain ⟨al, ah⟩ := a
  obtain ⟨bl, bh⟩ := b
  have h1 := ha.1.lo; have h2 := ha.1.hi; have h3 := ha.2.lo; have h4 := ha.2.hi
  have h5 := hb.1.lo; have h6 := hb.1.hi; have h7 := hb.2.lo; have h8 := hb.2.hi
  simp only at h1 h2 h3 h4 h5 h6 h7 h8 ⊢
  by_cases h : bh = 0
  · subst h
    cases left
    all_goals
      go_enter Try.func41, Try.ntmps41
      go_wp2
      exact bodyPost_ret (v := .tuple #[.agg #[.int .u64 (0), .int .u64 (0)], .bool false]) (by simp [results, Try.results41, go_sem]) rfl (Rans_mk (rfl) ((((Bel.refl _).new _).new _).new _))
  · have hf : (bh == 0) = false := beq_eq_false_iff_ne.2 h
    have g1 : 1 ≤ bh := by omega
    have g2 : 1 ≤ max bl 1 := by omega
    cases left
    · go_enter Try.func41, Try.ntmps41
      go_wp2
      go_region
      all_goals go_wp2
      all_goals exact bodyPost_ret (v := .tuple #[.agg #[.int .u64 (al / bh), .int .u64 (ah / max bl 1)], .bool true]) (by simp [results, Try.results41, go_sem]) rfl (Rans_mk (by unfold over; rw [if_neg h]; rfl) (((((Bel.refl _).new _).new _).new _).drew))
    · go_enter Try.func41, Try.ntmps41
      go_wp2
      exact bodyPost_ret (v := .tuple #[.agg #[.int .u64 (0), .int .u64 (min ah (bh - 1))], .bool true]) (by simp [results, Try.results41, go_sem]) rfl (Rans_mk (by unfold over; rw [if_neg h]; rfl) ((((Bel.refl _).new _).new _).new _))

theorem or_any (n e : Int) (w : World) : Calls Try.prog 49 #[.int .u64 n, .int .i64 e] w fun r w' => r = .returned (.int .u64 (orTop (n, e))) ∧ w = w' := by
  by_cases h : e = 0
  · have hf : (e != 0) = false := by simp [h]
    go_enter Try.func49, Try.ntmps49
    go_wp2
    go_ret
    exact ⟨by simp [orTop, h], rfl⟩
  · have hf : (e != 0) = true := by simp [h]
    go_enter Try.func49, Try.ntmps49
    go_wp2
    go_ret
    exact ⟨by simp [orTop, h, top], rfl⟩

theorem rising_add (a b : R) (w : World) (ha : UR a) (hb : UR b) : Calls Try.prog 39 #[.agg #[.int .u64 a.lo, .int .u64 a.hi], .agg #[.int .u64 b.lo, .int .u64 b.hi], .func (.func 31) #[] #[]] w (Rans (rising add a b) w) := by
  obtain ⟨al, ah⟩ := a
  obtain ⟨bl, bh⟩ := b
  have ua1 := ha.1; have ua2 := ha.2; have ub1 := hb.1; have ub2 := hb.2
  simp only at ua1 ua2 ub1 ub2 ⊢
  by_cases h : (add al bl).2 = 0
  · go_enter Try.func39, Try.ntmps39
    go_wp2_with (first
      | (go_at_call 31; refine (WordW.add_any _ _ _ (by assumption) (by assumption)).mono ?_; rintro e w' ⟨rfl, rfl⟩)
      | (go_at_call 49; refine (or_any _ _ _).mono ?_; rintro e w' ⟨rfl, rfl⟩))
    exact bodyPost_ret (v := .tuple #[.agg #[.int .u64 ((add al bl).1), .int .u64 (orTop (add ah bh))], .bool true]) (by simp [results, Try.results39, go_sem]) rfl (Rans_mk (by unfold rising; rw [if_pos h]) (((((Bel.refl _).new _).new _).new _)))
  · have hf : ((add al bl).2 != 0) = true := bne_iff_ne.2 h
    go_enter Try.func39, Try.ntmps39
    go_wp2_with (go_at_call 31; refine (WordW.add_any _ _ _ (by assumption) (by assumption)).mono ?_; rintro e w' ⟨rfl, rfl⟩)
    exact bodyPost_ret (v := .tuple #[.agg #[.int .u64 (0), .int .u64 (0)], .bool false]) (by simp [results, Try.results39, go_sem]) rfl (Rans_mk (by unfold rising; rw [if_neg h]; rfl) (((((Bel.refl _).new _).new _).new _)))

theorem rising_mul (a b : R) (w : World) (ha : UR a) (hb : UR b) : Calls Try.prog 39 #[.agg #[.int .u64 a.lo, .int .u64 a.hi], .agg #[.int .u64 b.lo, .int .u64 b.hi], .func (.func 33) #[] #[]] w (Rans (rising mul a b) w) := by
  obtain ⟨al, ah⟩ := a
  obtain ⟨bl, bh⟩ := b
  have ua1 := ha.1; have ua2 := ha.2; have ub1 := hb.1; have ub2 := hb.2
  simp only at ua1 ua2 ub1 ub2 ⊢
  by_cases h : (mul al bl).2 = 0
  · go_enter Try.func39, Try.ntmps39
    go_wp2_with (first
      | (go_at_call 33; refine (WordW.mul_any _ _ _ (by assumption) (by assumption)).mono ?_; rintro e w' ⟨rfl, rfl⟩)
      | (go_at_call 49; refine (or_any _ _ _).mono ?_; rintro e w' ⟨rfl, rfl⟩))
    exact bodyPost_ret (v := .tuple #[.agg #[.int .u64 ((mul al bl).1), .int .u64 (orTop (mul ah bh))], .bool true]) (by simp [results, Try.results39, go_sem]) rfl (Rans_mk (by unfold rising; rw [if_pos h]) (((((Bel.refl _).new _).new _).new _)))
  · have hf : ((mul al bl).2 != 0) = true := bne_iff_ne.2 h
    go_enter Try.func39, Try.ntmps39
    go_wp2_with (go_at_call 33; refine (WordW.mul_any _ _ _ (by assumption) (by assumption)).mono ?_; rintro e w' ⟨rfl, rfl⟩)
    exact bodyPost_ret (v := .tuple #[.agg #[.int .u64 (0), .int .u64 (0)], .bool false]) (by simp [results, Try.results39, go_sem]) rfl (Rans_mk (by unfold rising; rw [if_neg h]; rfl) (((((Bel.refl _).new _).new _).new _)))

theorem rising_shl (a b : R) (w : World) (ha : UR a) (hb : UR b) : Calls Try.prog 39 #[.agg #[.int .u64 a.lo, .int .u64 a.hi], .agg #[.int .u64 b.lo, .int .u64 b.hi], .func (.func 36) #[] #[]] w (Rans (rising shl a b) w) := by
  obtain ⟨al, ah⟩ := a
  obtain ⟨bl, bh⟩ := b
  have ua1 := ha.1; have ua2 := ha.2; have ub1 := hb.1; have ub2 := hb.2
  simp only at ua1 ua2 ub1 ub2 ⊢
  by_cases h : (shl al bl).2 = 0
  · go_enter Try.func39, Try.ntmps39
    go_wp2_with (first
      | (go_at_call 36; refine (WordW.shl_any _ _ _ (by assumption) (by assumption)).mono ?_; rintro e w' ⟨rfl, rfl⟩)
      | (go_at_call 49; refine (or_any _ _ _).mono ?_; rintro e w' ⟨rfl, rfl⟩))
    exact bodyPost_ret (v := .tuple #[.agg #[.int .u64 ((shl al bl).1), .int .u64 (orTop (shl ah bh))], .bool true]) (by simp [results, Try.results39, go_sem]) rfl (Rans_mk (by unfold rising; rw [if_pos h]) (((((Bel.refl _).new _).new _).new _)))
  · have hf : ((shl al bl).2 != 0) = true := bne_iff_ne.2 h
    go_enter Try.func39, Try.ntmps39
    go_wp2_with (go_at_call 36; refine (WordW.shl_any _ _ _ (by assumption) (by assumption)).mono ?_; rintro e w' ⟨rfl, rfl⟩)
    exact bodyPost_ret (v := .tuple #[.agg #[.int .u64 (0), .int .u64 (0)], .bool false]) (by simp [results, Try.results39, go_sem]) rfl (Rans_mk (by unfold rising; rw [if_neg h]; rfl) (((((Bel.refl _).new _).new _).new _)))

end Go.Proofs.Ytadigpaglappbaa.BoundsW
