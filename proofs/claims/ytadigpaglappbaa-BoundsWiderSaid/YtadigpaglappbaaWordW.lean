/- The walks of layer 1 (word): each function returns what the plain answers of XWordN say, and leaves the world as it was. -/
import Derived.Test.YtadigpaglappbaaProg
import Derived.Test.YtadigpaglappbaaWordN
import Derived.Test.YtadigpaglappbaaShelf
import Derived.Test.YtadigpaglappbaaBase
set_option linter.unusedVariables false
namespace Go.Proofs.Ytadigpaglappbaa.WordW
open Go.RowKit Go.Proofs.Ytadigpaglappbaa.Word

/-- A number and its error. -/
def ans (p : Int × Int) (w : World) (e : Ending) (w' : World) : Prop := e = .returned (.tuple #[.int .u64 p.1, .int .i64 p.2]) ∧ w = w'
theorem ans_mk {p : Int × Int} {x y : Int} {w : World} (h : (x, y) = p) : ans p w (.returned (.tuple #[.int .u64 x, .int .i64 y])) w := by subst h; exact ⟨rfl, rfl⟩

theorem told_any (n : Int) (b : Bool) (w : World) : Calls Try.prog 47 #[.int .u64 n, .bool b] w (ans (told n b) w) := by
  cases b
  all_goals
    go_enter Try.func47, Try.ntmps47
    go_wp2
    go_ret2
    exact ans_mk rfl

theorem run_add (a b : Int) (ha : 0 ≤ a) (hb : 0 ≤ b) (w : World) : (callFunc 46 #[.int .u64 a, .int .u64 b, .int .u64 0]).run Try.prog w =
      .ok (.value (.tuple #[.int .u64 ((a + b) % 18446744073709551616), .int .u64 ((a + b) / 18446744073709551616)])) w := by
  rw [run_callFunc_extern Try.func46 (by kernel_rfl) (by kernel_rfl) (by kernel_rfl) (e := add64Entry) (by kernel_rfl), run_add64 a b 0 (by omega) (by omega) (by omega) (by omega)]
  simp [Result.andThen]

theorem add_eq (a b : Int) (h0 : 0 ≤ a + b) (h1 : a + b ≤ 2 * top) : told ((a + b) % 18446744073709551616) ((a + b) / 18446744073709551616 == 0) = add a b := by
  unfold add told
  by_cases h : a + b ≤ top
  · have h2 : (a + b) / 18446744073709551616 = 0 := by unfold top at h; omega
    have h3 : (a + b) % 18446744073709551616 = a + b := by unfold top at h; omega
    simp [h, h2, h3]
  · have h2 : ((a + b) / 18446744073709551616 == 0) = false := by unfold top at h h1; simp; omega
    simp [h, h2]

theorem add_any (a b : Int) (w : World) (ha : U a) (hb : U b) : Calls Try.prog 31 #[.int .u64 a, .int .u64 b] w (ans (add a b) w) := by
  have hr := fun w => run_add a b ha.lo hb.lo w
  have hq := Lib.hid (add_eq a b (by have := ha.lo; have := hb.lo; omega) (by have := ha.hi; have := hb.hi; unfold top; omega))
  go_enter Try.func31, Try.ntmps31
  go_wp2_with fail
  refine (told_any _ _ _).mono ?_
  rintro e w' ⟨rfl, rfl⟩
  rw [hq.out]
  go_wp2_with fail
  go_ret2
  exact ans_mk rfl

theorem sub_eq (a b : Int) (ha : U a) (hb : U b) : told (IntKind.u64.wrap (a - b)) (decide (b ≤ a)) = sub a b := by
  unfold sub told
  by_cases h : b ≤ a
  · rw [IntWalk.u64_in _ ⟨by omega, by have := ha.hi; have := hb.lo; omega⟩]
  · simp [h]

theorem sub_any (a b : Int) (w : World) (ha : U a) (hb : U b) : Calls Try.prog 32 #[.int .u64 a, .int .u64 b] w (ans (sub a b) w) := by
  have hq := Lib.hid (sub_eq a b ha hb)
  go_enter Try.func32, Try.ntmps32
  go_wp2_with fail
  refine (told_any _ _ _).mono ?_
  rintro e w' ⟨rfl, rfl⟩
  rw [hq.out]
  go_wp2_with fail
  go_ret2
  exact ans_mk rfl

theorem mul_eq (a b : Nat) : told ((a * b % 18446744073709551616 : Nat) : Int) (((a * b / 18446744073709551616 : Nat) : Int) == 0) = mul a b := by
  unfold mul told
  have e : (a : Int) * (b : Int) = ((a * b : Nat) : Int) := by simp
  rw [e]
  generalize a * b = c
  by_cases h : (c : Int) ≤ top
  · have h2 : ((c / 18446744073709551616 : Nat) : Int) = 0 := by unfold top at h; omega
    have h3 : ((c % 18446744073709551616 : Nat) : Int) = c := by unfold top at h; omega
    rw [h2, h3]; simp [h]
  · have h2 : (((c / 18446744073709551616 : Nat) : Int) == 0) = false := by unfold top at h; rw [beq_eq_false_iff_ne]; omega
    rw [h2]; simp [h]

theorem mul_any (a b : Int) (w : World) (ha : U a) (hb : U b) : Calls Try.prog 33 #[.int .u64 a, .int .u64 b] w (ans (mul a b) w) := by
  obtain ⟨a, rfl⟩ := Int.eq_ofNat_of_zero_le ha.lo
  obtain ⟨b, rfl⟩ := Int.eq_ofNat_of_zero_le hb.lo
  have hq := Lib.hid (mul_eq a b)
  have h1 : a < 18446744073709551616 := by have := ha.hi; omega
  have h2 : b < 18446744073709551616 := by have := hb.hi; omega
  go_enter Try.func33, Try.ntmps33
  go_wp2_with fail
  refine (Try.bits_Mul64 a b h1 h2 _).mono ?_
  rintro e w' ⟨rfl, rfl⟩
  clear h1 h2
  generalize hx : ((a * b % 18446744073709551616 : Nat) : Int) = x at *
  generalize hy : ((a * b / 18446744073709551616 : Nat) : Int) = y at *
  clear hx hy
  go_wp2_with fail
  refine (told_any _ _ _).mono ?_
  rintro e w' ⟨rfl, rfl⟩
  rw [hq.out]
  go_wp2_with fail
  go_ret2
  exact ans_mk rfl

theorem div_any (a b : Int) (w : World) (ha : U a) (hb : U b) : Calls Try.prog 34 #[.int .u64 a, .int .u64 b] w (ans (div a b) w) := by
  have h0 := ha.lo
  have h1 := ha.hi
  by_cases h : b = 0
  · subst h
    go_enter Try.func34, Try.ntmps34
    go_wp2
    go_ret2
    exact ans_mk rfl
  · have hb1 : 1 ≤ b := by have := hb.lo; omega
    have hf : (b == 0) = false := by simp; exact h
    go_enter Try.func34, Try.ntmps34
    go_wp2
    go_ret2
    exact ans_mk (by unfold div; rw [if_neg h])

theorem mod_any (a b : Int) (w : World) (ha : U a) (hb : U b) : Calls Try.prog 35 #[.int .u64 a, .int .u64 b] w (ans (mod a b) w) := by
  have h0 := ha.lo
  have h1 := ha.hi
  by_cases h : b = 0
  · subst h
    go_enter Try.func35, Try.ntmps35
    go_wp2
    go_ret2
    exact ans_mk rfl
  · have hb1 : 1 ≤ b := by have := hb.lo; omega
    have hf : (b == 0) = false := by simp; exact h
    go_enter Try.func35, Try.ntmps35
    go_wp2
    go_ret2
    exact ans_mk (by unfold mod; rw [if_neg h])

theorem truth_any (b : Bool) (w : World) : Calls Try.prog 29 #[.bool b] w fun e w' => e = .returned (.int .u64 (truth b)) ∧ w = w' := by
  cases b
  all_goals
    go_enter Try.func29, Try.ntmps29
    go_wp2
    go_ret
    exact ⟨rfl, rfl⟩

theorem shl_eq (a n : Int) (ha : U a) (h : n < 64) : told (IntKind.u64.wrap (a * 2 ^ n.toNat)) (IntKind.u64.wrap (a * 2 ^ n.toNat) / 2 ^ n.toNat == a) = shl a n := by
  unfold shl
  have hp := pow_pos' n.toNat
  rw [IntKind.wrap_u64]
  generalize (2 : Int) ^ n.toNat = p at *
  have h0 : 0 ≤ a * p := Int.mul_nonneg ha.lo (Int.le_of_lt hp)
  by_cases hle : a * p ≤ top
  · have e : a * p % 18446744073709551616 = a * p := by unfold top at hle; omega
    rw [e, Int.mul_ediv_cancel _ (by omega)]
    simp [h, hle]
  · have hne : (a * p % 18446744073709551616 / p == a) = false := by
      rw [beq_eq_false_iff_ne]
      intro he
      have h1 : a * p ≤ a * p % 18446744073709551616 := by
        have := Int.ediv_mul_le (a * p % 18446744073709551616) (b := p) (by omega)
        rw [he] at this
        exact this
      unfold top at hle
      omega
    rw [hne]
    simp [h, hle, told]

theorem shl_any (a n : Int) (w : World) (ha : U a) (hn : U n) : Calls Try.prog 36 #[.int .u64 a, .int .u64 n] w (ans (shl a n) w) := by
  have h0 := hn.lo
  by_cases h : n < 64
  · have hq := Lib.hid (shl_eq a n ha h)
    go_enter Try.func36, Try.ntmps36
    go_wp2_with fail
    refine (told_any _ _ _).mono ?_
    rintro e w' ⟨rfl, rfl⟩
    rw [hq.out]
    go_wp2_with fail
    go_ret2
    exact ans_mk rfl
  · have hq := Lib.hid (show told (IntKind.u64.wrap (a * 18446744073709551616)) false = shl a n by simp [shl, h, told])
    have hf : decide (n < 64) = false := by simp; omega
    go_enter Try.func36, Try.ntmps36
    go_wp2_with fail
    refine (told_any _ _ _).mono ?_
    rintro e w' ⟨rfl, rfl⟩
    rw [hq.out]
    go_wp2_with fail
    go_ret2
    exact ans_mk rfl

theorem shr_any (a n : Int) (w : World) (ha : U a) (hn : U n) : Calls Try.prog 37 #[.int .u64 a, .int .u64 n] w (ans (shr a n) w) := by
  have h0 := hn.lo
  by_cases h : n < 64
  · have hq := Lib.hid (show told (a / 2 ^ n.toNat) true = shr a n by simp [shr, h])
    go_enter Try.func37, Try.ntmps37
    go_wp2_with fail
    refine (told_any _ _ _).mono ?_
    rintro e w' ⟨rfl, rfl⟩
    rw [hq.out]
    go_wp2_with fail
    go_ret2
    exact ans_mk rfl
  · have hq := Lib.hid (show told (a / 18446744073709551616) false = shr a n by simp [shr, h, told])
    have hf : decide (n < 64) = false := by simp; omega
    go_enter Try.func37, Try.ntmps37
    go_wp2_with fail
    refine (told_any _ _ _).mono ?_
    rintro e w' ⟨rfl, rfl⟩
    rw [hq.out]
    go_wp2_with fail
    go_ret2
    exact ans_mk rfl

theorem mask_eq : ∀ n : Fin 64, (18446744073709551615 : Int) / 2 ^ (64 - (n : Nat)) = 2 ^ (n : Nat) - 1 := by decide
theorem ret_u64 {a b : Int} (h : a = b) : Ending.returned (.int .u64 a) = .returned (.int .u64 b) := by rw [h]

theorem mask_any (n : Int) (w : World) : Calls Try.prog 26 #[.int .i64 n] w fun e w' => e = .returned (.int .u64 (mask n)) ∧ w = w' := by
  by_cases h : n ≤ 0
  · go_enter Try.func26, Try.ntmps26
    go_wp2
    go_ret
    exact ⟨ret_u64 (by unfold mask; rw [if_pos h]), rfl⟩
  · by_cases h2 : n < 64
    · have hm : min n 64 = n := by omega
      go_enter Try.func26, Try.ntmps26
      go_wp2
      go_ret
      refine ⟨ret_u64 ?_, rfl⟩
      unfold mask
      rw [if_neg (by omega), if_pos h2]
      have := mask_eq ⟨n.toNat, by omega⟩
      simp only at this
      rw [← this]
      congr 2
      omega
    · by_cases h3 : n = 64
      · subst h3
        go_enter Try.func26, Try.ntmps26
        go_wp2
        go_ret
        exact ⟨ret_u64 rfl, rfl⟩
      · have h4 : 64 < n := by omega
        have hm : min n 64 = 64 := by omega
        go_enter Try.func26, Try.ntmps26
        go_wp2
        go_ret
        exact ⟨ret_u64 (by unfold mask; rw [if_neg (by omega), if_neg (by omega)]; rfl), rfl⟩

def cans (p : Int × Bool) (w : World) (e : Ending) (w' : World) : Prop := e = .returned (.tuple #[.int .u64 p.1, .bool p.2]) ∧ w = w'
theorem cans_mk {p : Int × Bool} {x : Int} {y : Bool} {w : World} (h : (x, y) = p) : cans p w (.returned (.tuple #[.int .u64 x, .bool y])) w := by subst h; exact ⟨rfl, rfl⟩

theorem cmp_any (s : ByteArray) (a b : Int) (w : World) : Calls Try.prog 38 #[.string s, .int .u64 a, .int .u64 b] w (cans (cmp s.toList a b) w) := by
  go_enter Try.func38, Try.ntmps38
  go_wp2_with (go_at_call 29; refine (truth_any _ _).mono ?_; rintro e w' ⟨rfl, rfl⟩)
  all_goals go_ret2
  all_goals first
    | (refine cans_mk ?_; simp [cmp, *]; done)
    | (have h : (a != 0) = true := bne_iff_ne.2 ‹¬a = 0›
       refine cans_mk ?_; simp [cmp, *]; done)

theorem op_any (s : ByteArray) (a b : Int) (w : World) (ha : U a) (hb : U b) : Calls Try.prog 24 #[.string s, .int .u64 a, .int .u64 b] w (ans (op s.toList a b) w) := by
  have h1 := fun w => add_any a b w ha hb
  have h2 := fun w => sub_any a b w ha hb
  have h3 := fun w => mul_any a b w ha hb
  have h4 := fun w => div_any a b w ha hb
  have h5 := fun w => mod_any a b w ha hb
  have h6 := fun w => shl_any a b w ha hb
  have h7 := fun w => shr_any a b w ha hb
  have k1 : bits .and .u64 a b = band a b := by
    have := bits_and_u64_nat a.toNat b.toNat (by have := toNat_lt ha; omega) (by have := toNat_lt hb; omega)
    rw [Int.toNat_of_nonneg ha.lo, Int.toNat_of_nonneg hb.lo] at this
    exact this
  have k2 : bits .or .u64 a b = bor a b := by
    have := bits_or_u64_nat a.toNat b.toNat (by have := toNat_lt ha; omega) (by have := toNat_lt hb; omega)
    rw [Int.toNat_of_nonneg ha.lo, Int.toNat_of_nonneg hb.lo] at this
    exact this
  have H1 := Lib.hid h1; have H2 := Lib.hid h2; have H3 := Lib.hid h3; have H4 := Lib.hid h4; have H5 := Lib.hid h5; have H6 := Lib.hid h6; have H7 := Lib.hid h7
  clear h1 h2 h3 h4 h5 h6 h7
  go_enter Try.func24, Try.ntmps24
  go_wp2_with (first
    | (go_at_call 31; refine (H1.out _).mono ?_; rintro e w' ⟨rfl, rfl⟩)
    | (go_at_call 32; refine (H2.out _).mono ?_; rintro e w' ⟨rfl, rfl⟩)
    | (go_at_call 33; refine (H3.out _).mono ?_; rintro e w' ⟨rfl, rfl⟩)
    | (go_at_call 34; refine (H4.out _).mono ?_; rintro e w' ⟨rfl, rfl⟩)
    | (go_at_call 35; refine (H5.out _).mono ?_; rintro e w' ⟨rfl, rfl⟩)
    | (go_at_call 36; refine (H6.out _).mono ?_; rintro e w' ⟨rfl, rfl⟩)
    | (go_at_call 37; refine (H7.out _).mono ?_; rintro e w' ⟨rfl, rfl⟩)
    | (go_at_call 38; refine (cmp_any _ _ _ _).mono ?_; rintro e w' ⟨rfl, rfl⟩))
  all_goals go_ret2
  all_goals first
    | (refine ans_mk ?_; simp [op, *]; done)
    | (have h : (cmp s.toList a b).2 = false := by simpa using ‹(!(cmp s.toList a b).snd) = true›
       refine ans_mk ?_; simp [op, *]; done)
    | (have h : (cmp s.toList a b).2 = true := by simpa using ‹(!(cmp s.toList a b).snd) = false›
       refine ans_mk ?_; simp [op, *]; done)
end Go.Proofs.Ytadigpaglappbaa.WordW
