/- The walks of layer 11 (bounds), second part: Range's methods, wide, Op. -/
import Derived.Test.YtadigpaglappbaaBoundsW
import Derived.Test.YtadigpaglappbaaShelf
import Derived.StillTailTactics
set_option linter.unusedVariables false
namespace Go.Proofs.Ytadigpaglappbaa.Bounds2T
open Go.RowKit Go.Proofs.Ytadigpaglappbaa.Word Go.Proofs.Ytadigpaglappbaa.WordW Go.Proofs.Ytadigpaglappbaa.BoundsN Go.Proofs.Ytadigpaglappbaa.BoundsW Go.Proofs.Ytadigpaglappbaa.Mem

theorem good_any (a : R) (w : World) : Calls Try.prog 22 #[.agg #[.int .u64 a.lo, .int .u64 a.hi]] w (Bans (decide (a.lo ≤ a.hi)) w) := by
  obtain ⟨al, ah⟩ := a
  go_enter Try.func22, Try.ntmps22
  go_wp2
  go_ret
  exact ⟨rfl, (Bel.refl _).new _⟩

theorem point_any (a : R) (w : World) : Calls Try.prog 23 #[.agg #[.int .u64 a.lo, .int .u64 a.hi]] w (Bans (a.lo == a.hi) w) := by
  obtain ⟨al, ah⟩ := a
  go_enter Try.func23, Try.ntmps23
  go_wp2
  go_ret
  exact ⟨rfl, (Bel.refl _).new _⟩

def has (a : R) (n : Int) : Bool := decide (a.lo ≤ n) && decide (n ≤ a.hi)
theorem has_any (a : R) (n : Int) (w : World) : Calls Try.prog 12 #[.agg #[.int .u64 a.lo, .int .u64 a.hi], .int .u64 n] w (Bans (has a n) w) := by
  obtain ⟨al, ah⟩ := a
  by_cases h : al ≤ n
  · have hd : decide (al ≤ n) = true := decide_eq_true h
    go_enter Try.func12, Try.ntmps12
    go_wp2
    go_ret
    exact ⟨by simp [has, h], (Bel.refl _).new _⟩
  · have hd : decide (al ≤ n) = false := decide_eq_false h
    go_enter Try.func12, Try.ntmps12
    go_wp2
    go_ret
    exact ⟨by simp [has]; omega, (Bel.refl _).new _⟩

theorem point_of (n : Int) (w : World) : Calls Try.prog 8 #[.int .u64 n] w (Ran ⟨n, n⟩ w) := by
  go_enter Try.func8, Try.ntmps8
  go_wp2
  exact bodyPost_ret (v := .agg #[.int .u64 n, .int .u64 n]) (by simp [results, Try.results8, go_sem]) rfl (Ran_mk rfl ((Bel.refl _).new _))

theorem point_exact (n : Int) (w : World) : Calls Try.prog 8 #[.int .u64 n] w fun e w' => e = .returned (.agg #[.int .u64 n, .int .u64 n]) ∧ w.alloc (.cells #[.int .u64 n, .int .u64 n] 36) = w' := by
  go_enter Try.func8, Try.ntmps8
  go_wp2
  exact bodyPost_ret (v := .agg #[.int .u64 n, .int .u64 n]) (by simp [results, Try.results8, go_sem]) rfl ⟨rfl, rfl⟩

theorem all_any (n : Int) (w : World) : Calls Try.prog 17 #[.int .i64 n] w (Ran ⟨0, mask n⟩ w) := by
  go_enter Try.func17, Try.ntmps17
  go_wp2_with (go_at_call 26; refine (WordW.mask_any _ _).mono ?_; rintro e w' ⟨rfl, rfl⟩)
  exact bodyPost_ret (v := .agg #[.int .u64 0, .int .u64 (mask n)]) (by simp [results, Try.results17, go_sem]) rfl (Ran_mk rfl ((Bel.refl _).new _))

set_option maxRecDepth 100000 in
set_option maxHeartbeats 400000 in
theorem wide_43 (s : ByteArray) (a b : R) (w : World) (ha : UR a) (hb : UR b) (hs : s.toList = [43]) : Calls Try.prog 25 #[.string s, .agg #[.int .u64 a.lo, .int .u64 a.hi], .agg #[.int .u64 b.lo, .int .u64 b.hi]] w (Rans (wide s.toList a b) w) := by
  have e0 : (s.toList == [43]) = true := by rw [hs]; rfl
  have e1 : (s.toList == [45]) = false := by rw [hs]; rfl
  have e2 : (s.toList == [42]) = false := by rw [hs]; rfl
  have e3 : (s.toList == [47]) = false := by rw [hs]; rfl
  have e4 : (s.toList == [37]) = false := by rw [hs]; rfl
  have e5 : (s.toList == [60, 60]) = false := by rw [hs]; rfl
  have e6 : (s.toList == [62, 62]) = false := by rw [hs]; rfl
  have e7 : (s.toList == [38]) = false := by rw [hs]; rfl
  have e8 : (s.toList == [124]) = false := by rw [hs]; rfl
  have hw : wide s.toList a b = rising add a b := by rw [hs]; rfl
  have HW := Lib.hid hw
  clear hw hs
  have H1 := Lib.hid (fun w => rising_add a b w ha hb)
  obtain ⟨al, ah⟩ := a
  obtain ⟨bl, bh⟩ := b
  simp only
  have B0 := Lib.hid ((((Bel.refl w).new (.cells #[.int .u64 al, .int .u64 ah] 36)).new (.cells #[.int .u64 bl, .int .u64 bh] 36)).new (.cells #[.int .u64 0, .int .u64 0] 36))
  go_enter Try.func25, Try.ntmps25
  go_wp2_with (go_at_call 39; refine (H1.out _).mono ?_; rintro e w' ⟨rfl, hbl⟩; obtain ⟨hc, hf⟩ := bcell hbl; have hz := hbl.size; simp at hz; have HB := Lib.hid (B0.out.then hbl); clear hbl)
  refine bodyPost_ret (v := .tuple #[.agg #[.int .u64 (rising add ⟨al, ah⟩ ⟨bl, bh⟩).1.lo, .int .u64 (rising add ⟨al, ah⟩ ⟨bl, bh⟩).1.hi], .bool (rising add ⟨al, ah⟩ ⟨bl, bh⟩).2]) ?_ rfl (Rans_mk ?_ ?_)
  · simp [results, Try.results25, go_sem, *]
  · rw [HW.out]
  · exact (HB.out.store (p := ⟨w.heap.size + 1 + 1, 0, none⟩) (by simp; omega) _).store (p := ⟨w.heap.size + 1 + 1, 1, none⟩) (by simp; omega) _

set_option maxRecDepth 100000 in
set_option maxHeartbeats 400000 in
theorem wide_45 (s : ByteArray) (a b : R) (w : World) (ha : UR a) (hb : UR b) (hs : s.toList = [45]) : Calls Try.prog 25 #[.string s, .agg #[.int .u64 a.lo, .int .u64 a.hi], .agg #[.int .u64 b.lo, .int .u64 b.hi]] w (Rans (wide s.toList a b) w) := by
  have e0 : (s.toList == [43]) = false := by rw [hs]; rfl
  have e1 : (s.toList == [45]) = true := by rw [hs]; rfl
  have e2 : (s.toList == [42]) = false := by rw [hs]; rfl
  have e3 : (s.toList == [47]) = false := by rw [hs]; rfl
  have e4 : (s.toList == [37]) = false := by rw [hs]; rfl
  have e5 : (s.toList == [60, 60]) = false := by rw [hs]; rfl
  have e6 : (s.toList == [62, 62]) = false := by rw [hs]; rfl
  have e7 : (s.toList == [38]) = false := by rw [hs]; rfl
  have e8 : (s.toList == [124]) = false := by rw [hs]; rfl
  have hw : wide s.toList a b = minus a b := by rw [hs]; rfl
  have HW := Lib.hid hw
  clear hw hs
  have H1 := Lib.hid (fun w => minus_any a b w ha hb)
  obtain ⟨al, ah⟩ := a
  obtain ⟨bl, bh⟩ := b
  simp only
  have B0 := Lib.hid ((((Bel.refl w).new (.cells #[.int .u64 al, .int .u64 ah] 36)).new (.cells #[.int .u64 bl, .int .u64 bh] 36)).new (.cells #[.int .u64 0, .int .u64 0] 36))
  go_enter Try.func25, Try.ntmps25
  go_wp2_with (go_at_call 40; refine (H1.out _).mono ?_; rintro e w' ⟨rfl, hbl⟩; obtain ⟨hc, hf⟩ := bcell hbl; have hz := hbl.size; simp at hz; have HB := Lib.hid (B0.out.then hbl); clear hbl)
  refine bodyPost_ret (v := .tuple #[.agg #[.int .u64 (minus ⟨al, ah⟩ ⟨bl, bh⟩).1.lo, .int .u64 (minus ⟨al, ah⟩ ⟨bl, bh⟩).1.hi], .bool (minus ⟨al, ah⟩ ⟨bl, bh⟩).2]) ?_ rfl (Rans_mk ?_ ?_)
  · simp [results, Try.results25, go_sem, *]
  · rw [HW.out]
  · exact (HB.out.store (p := ⟨w.heap.size + 1 + 1, 0, none⟩) (by simp; omega) _).store (p := ⟨w.heap.size + 1 + 1, 1, none⟩) (by simp; omega) _

set_option maxRecDepth 100000 in
set_option maxHeartbeats 400000 in
theorem wide_42 (s : ByteArray) (a b : R) (w : World) (ha : UR a) (hb : UR b) (hs : s.toList = [42]) : Calls Try.prog 25 #[.string s, .agg #[.int .u64 a.lo, .int .u64 a.hi], .agg #[.int .u64 b.lo, .int .u64 b.hi]] w (Rans (wide s.toList a b) w) := by
  have e0 : (s.toList == [43]) = false := by rw [hs]; rfl
  have e1 : (s.toList == [45]) = false := by rw [hs]; rfl
  have e2 : (s.toList == [42]) = true := by rw [hs]; rfl
  have e3 : (s.toList == [47]) = false := by rw [hs]; rfl
  have e4 : (s.toList == [37]) = false := by rw [hs]; rfl
  have e5 : (s.toList == [60, 60]) = false := by rw [hs]; rfl
  have e6 : (s.toList == [62, 62]) = false := by rw [hs]; rfl
  have e7 : (s.toList == [38]) = false := by rw [hs]; rfl
  have e8 : (s.toList == [124]) = false := by rw [hs]; rfl
  have hw : wide s.toList a b = rising mul a b := by rw [hs]; rfl
  have HW := Lib.hid hw
  clear hw hs
  have H1 := Lib.hid (fun w => rising_mul a b w ha hb)
  obtain ⟨al, ah⟩ := a
  obtain ⟨bl, bh⟩ := b
  simp only
  have B0 := Lib.hid ((((Bel.refl w).new (.cells #[.int .u64 al, .int .u64 ah] 36)).new (.cells #[.int .u64 bl, .int .u64 bh] 36)).new (.cells #[.int .u64 0, .int .u64 0] 36))
  go_enter Try.func25, Try.ntmps25
  go_wp2_with (go_at_call 39; refine (H1.out _).mono ?_; rintro e w' ⟨rfl, hbl⟩; obtain ⟨hc, hf⟩ := bcell hbl; have hz := hbl.size; simp at hz; have HB := Lib.hid (B0.out.then hbl); clear hbl)
  refine bodyPost_ret (v := .tuple #[.agg #[.int .u64 (rising mul ⟨al, ah⟩ ⟨bl, bh⟩).1.lo, .int .u64 (rising mul ⟨al, ah⟩ ⟨bl, bh⟩).1.hi], .bool (rising mul ⟨al, ah⟩ ⟨bl, bh⟩).2]) ?_ rfl (Rans_mk ?_ ?_)
  · simp [results, Try.results25, go_sem, *]
  · rw [HW.out]
  · exact (HB.out.store (p := ⟨w.heap.size + 1 + 1, 0, none⟩) (by simp; omega) _).store (p := ⟨w.heap.size + 1 + 1, 1, none⟩) (by simp; omega) _

set_option maxRecDepth 100000 in
set_option maxHeartbeats 400000 in
theorem wide_47 (s : ByteArray) (a b : R) (w : World) (ha : UR a) (hb : UR b) (hs : s.toList = [47]) : Calls Try.prog 25 #[.string s, .agg #[.int .u64 a.lo, .int .u64 a.hi], .agg #[.int .u64 b.lo, .int .u64 b.hi]] w (Rans (wide s.toList a b) w) := by
  have e0 : (s.toList == [43]) = false := by rw [hs]; rfl
  have e1 : (s.toList == [45]) = false := by rw [hs]; rfl
  have e2 : (s.toList == [42]) = false := by rw [hs]; rfl
  have e3 : (s.toList == [47]) = true := by rw [hs]; rfl
  have e4 : (s.toList == [37]) = false := by rw [hs]; rfl
  have e5 : (s.toList == [60, 60]) = false := by rw [hs]; rfl
  have e6 : (s.toList == [62, 62]) = false := by rw [hs]; rfl
  have e7 : (s.toList == [38]) = false := by rw [hs]; rfl
  have e8 : (s.toList == [124]) = false := by rw [hs]; rfl
  have hw : wide s.toList a b = over a b false := by rw [hs]; rfl
  have HW := Lib.hid hw
  clear hw hs
  have H1 := Lib.hid (fun w => over_any a b false w ha hb)
  obtain ⟨al, ah⟩ := a
  obtain ⟨bl, bh⟩ := b
  simp only
  have B0 := Lib.hid ((((Bel.refl w).new (.cells #[.int .u64 al, .int .u64 ah] 36)).new (.cells #[.int .u64 bl, .int .u64 bh] 36)).new (.cells #[.int .u64 0, .int .u64 0] 36))
  go_enter Try.func25, Try.ntmps25
  go_wp2_with (go_at_call 41; refine (H1.out _).mono ?_; rintro e w' ⟨rfl, hbl⟩; obtain ⟨hc, hf⟩ := bcell hbl; have hz := hbl.size; simp at hz; have HB := Lib.hid (B0.out.then hbl); clear hbl)
  refine bodyPost_ret (v := .tuple #[.agg #[.int .u64 (over ⟨al, ah⟩ ⟨bl, bh⟩ false).1.lo, .int .u64 (over ⟨al, ah⟩ ⟨bl, bh⟩ false).1.hi], .bool (over ⟨al, ah⟩ ⟨bl, bh⟩ false).2]) ?_ rfl (Rans_mk ?_ ?_)
  · simp [results, Try.results25, go_sem, *]
  · rw [HW.out]
  · exact (HB.out.store (p := ⟨w.heap.size + 1 + 1, 0, none⟩) (by simp; omega) _).store (p := ⟨w.heap.size + 1 + 1, 1, none⟩) (by simp; omega) _

set_option maxRecDepth 100000 in
set_option maxHeartbeats 400000 in
theorem wide_37 (s : ByteArray) (a b : R) (w : World) (ha : UR a) (hb : UR b) (hs : s.toList = [37]) : Calls Try.prog 25 #[.string s, .agg #[.int .u64 a.lo, .int .u64 a.hi], .agg #[.int .u64 b.lo, .int .u64 b.hi]] w (Rans (wide s.toList a b) w) := by
  have e0 : (s.toList == [43]) = false := by rw [hs]; rfl
  have e1 : (s.toList == [45]) = false := by rw [hs]; rfl
  have e2 : (s.toList == [42]) = false := by rw [hs]; rfl
  have e3 : (s.toList == [47]) = false := by rw [hs]; rfl
  have e4 : (s.toList == [37]) = true := by rw [hs]; rfl
  have e5 : (s.toList == [60, 60]) = false := by rw [hs]; rfl
  have e6 : (s.toList == [62, 62]) = false := by rw [hs]; rfl
  have e7 : (s.toList == [38]) = false := by rw [hs]; rfl
  have e8 : (s.toList == [124]) = false := by rw [hs]; rfl
  have hw : wide s.toList a b = over a b true := by rw [hs]; rfl
  have HW := Lib.hid hw
  clear hw hs
  have H1 := Lib.hid (fun w => over_any a b true w ha hb)
  obtain ⟨al, ah⟩ := a
  obtain ⟨bl, bh⟩ := b
  simp only
  have B0 := Lib.hid ((((Bel.refl w).new (.cells #[.int .u64 al, .int .u64 ah] 36)).new (.cells #[.int .u64 bl, .int .u64 bh] 36)).new (.cells #[.int .u64 0, .int .u64 0] 36))
  go_enter Try.func25, Try.ntmps25
  go_wp2_with (go_at_call 41; refine (H1.out _).mono ?_; rintro e w' ⟨rfl, hbl⟩; obtain ⟨hc, hf⟩ := bcell hbl; have hz := hbl.size; simp at hz; have HB := Lib.hid (B0.out.then hbl); clear hbl)
  refine bodyPost_ret (v := .tuple #[.agg #[.int .u64 (over ⟨al, ah⟩ ⟨bl, bh⟩ true).1.lo, .int .u64 (over ⟨al, ah⟩ ⟨bl, bh⟩ true).1.hi], .bool (over ⟨al, ah⟩ ⟨bl, bh⟩ true).2]) ?_ rfl (Rans_mk ?_ ?_)
  · simp [results, Try.results25, go_sem, *]
  · rw [HW.out]
  · exact (HB.out.store (p := ⟨w.heap.size + 1 + 1, 0, none⟩) (by simp; omega) _).store (p := ⟨w.heap.size + 1 + 1, 1, none⟩) (by simp; omega) _

set_option maxRecDepth 100000 in
set_option maxHeartbeats 400000 in
theorem wide_60_60 (s : ByteArray) (a b : R) (w : World) (ha : UR a) (hb : UR b) (hs : s.toList = [60, 60]) : Calls Try.prog 25 #[.string s, .agg #[.int .u64 a.lo, .int .u64 a.hi], .agg #[.int .u64 b.lo, .int .u64 b.hi]] w (Rans (wide s.toList a b) w) := by
  have e0 : (s.toList == [43]) = false := by rw [hs]; rfl
  have e1 : (s.toList == [45]) = false := by rw [hs]; rfl
  have e2 : (s.toList == [42]) = false := by rw [hs]; rfl
  have e3 : (s.toList == [47]) = false := by rw [hs]; rfl
  have e4 : (s.toList == [37]) = false := by rw [hs]; rfl
  have e5 : (s.toList == [60, 60]) = true := by rw [hs]; rfl
  have e6 : (s.toList == [62, 62]) = false := by rw [hs]; rfl
  have e7 : (s.toList == [38]) = false := by rw [hs]; rfl
  have e8 : (s.toList == [124]) = false := by rw [hs]; rfl
  have hw : wide s.toList a b = rising shl a b := by rw [hs]; rfl
  have HW := Lib.hid hw
  clear hw hs
  have H1 := Lib.hid (fun w => rising_shl a b w ha hb)
  obtain ⟨al, ah⟩ := a
  obtain ⟨bl, bh⟩ := b
  simp only
  have B0 := Lib.hid ((((Bel.refl w).new (.cells #[.int .u64 al, .int .u64 ah] 36)).new (.cells #[.int .u64 bl, .int .u64 bh] 36)).new (.cells #[.int .u64 0, .int .u64 0] 36))
  go_enter Try.func25, Try.ntmps25
  go_wp2_with (go_at_call 39; refine (H1.out _).mono ?_; rintro e w' ⟨rfl, hbl⟩; obtain ⟨hc, hf⟩ := bcell hbl; have hz := hbl.size; simp at hz; have HB := Lib.hid (B0.out.then hbl); clear hbl)
  refine bodyPost_ret (v := .tuple #[.agg #[.int .u64 (rising shl ⟨al, ah⟩ ⟨bl, bh⟩).1.lo, .int .u64 (rising shl ⟨al, ah⟩ ⟨bl, bh⟩).1.hi], .bool (rising shl ⟨al, ah⟩ ⟨bl, bh⟩).2]) ?_ rfl (Rans_mk ?_ ?_)
  · simp [results, Try.results25, go_sem, *]
  · rw [HW.out]
  · exact (HB.out.store (p := ⟨w.heap.size + 1 + 1, 0, none⟩) (by simp; omega) _).store (p := ⟨w.heap.size + 1 + 1, 1, none⟩) (by simp; omega) _

set_option maxRecDepth 100000 in
set_option maxHeartbeats 400000 in
theorem wide_62_62 (s : ByteArray) (a b : R) (w : World) (ha : UR a) (hb : UR b) (hs : s.toList = [62, 62]) : Calls Try.prog 25 #[.string s, .agg #[.int .u64 a.lo, .int .u64 a.hi], .agg #[.int .u64 b.lo, .int .u64 b.hi]] w (Rans (wide s.toList a b) w) := by
  have e0 : (s.toList == [43]) = false := by rw [hs]; rfl
  have e1 : (s.toList == [45]) = false := by rw [hs]; rfl
  have e2 : (s.toList == [42]) = false := by rw [hs]; rfl
  have e3 : (s.toList == [47]) = false := by rw [hs]; rfl
  have e4 : (s.toList == [37]) = false := by rw [hs]; rfl
  have e5 : (s.toList == [60, 60]) = false := by rw [hs]; rfl
  have e6 : (s.toList == [62, 62]) = true := by rw [hs]; rfl
  have e7 : (s.toList == [38]) = false := by rw [hs]; rfl
  have e8 : (s.toList == [124]) = false := by rw [hs]; rfl
  have hw : wide s.toList a b = down a b := by rw [hs]; rfl
  have HW := Lib.hid hw
  clear hw hs
  have H1 := Lib.hid (fun w => down_any a b w ha hb)
  obtain ⟨al, ah⟩ := a
  obtain ⟨bl, bh⟩ := b
  simp only
  have B0 := Lib.hid ((((Bel.refl w).new (.cells #[.int .u64 al, .int .u64 ah] 36)).new (.cells #[.int .u64 bl, .int .u64 bh] 36)).new (.cells #[.int .u64 0, .int .u64 0] 36))
  go_enter Try.func25, Try.ntmps25
  go_wp2_with (go_at_call 42; refine (H1.out _).mono ?_; rintro e w' ⟨rfl, hbl⟩; obtain ⟨hc, hf⟩ := bcell hbl; have hz := hbl.size; simp at hz; have HB := Lib.hid (B0.out.then hbl); clear hbl)
  refine bodyPost_ret (v := .tuple #[.agg #[.int .u64 (down ⟨al, ah⟩ ⟨bl, bh⟩).1.lo, .int .u64 (down ⟨al, ah⟩ ⟨bl, bh⟩).1.hi], .bool (down ⟨al, ah⟩ ⟨bl, bh⟩).2]) ?_ rfl (Rans_mk ?_ ?_)
  · simp [results, Try.results25, go_sem, *]
  · rw [HW.out]
  · exact (HB.out.store (p := ⟨w.heap.size + 1 + 1, 0, none⟩) (by simp; omega) _).store (p := ⟨w.heap.size + 1 + 1, 1, none⟩) (by simp; omega) _

set_option maxRecDepth 100000 in
set_option maxHeartbeats 400000 in
theorem wide_38 (s : ByteArray) (a b : R) (w : World) (ha : UR a) (hb : UR b) (hs : s.toList = [38]) : Calls Try.prog 25 #[.string s, .agg #[.int .u64 a.lo, .int .u64 a.hi], .agg #[.int .u64 b.lo, .int .u64 b.hi]] w (Rans (wide s.toList a b) w) := by
  have e0 : (s.toList == [43]) = false := by rw [hs]; rfl
  have e1 : (s.toList == [45]) = false := by rw [hs]; rfl
  have e2 : (s.toList == [42]) = false := by rw [hs]; rfl
  have e3 : (s.toList == [47]) = false := by rw [hs]; rfl
  have e4 : (s.toList == [37]) = false := by rw [hs]; rfl
  have e5 : (s.toList == [60, 60]) = false := by rw [hs]; rfl
  have e6 : (s.toList == [62, 62]) = false := by rw [hs]; rfl
  have e7 : (s.toList == [38]) = true := by rw [hs]; rfl
  have e8 : (s.toList == [124]) = false := by rw [hs]; rfl
  have HW := Lib.hid (show wide s.toList a b = (⟨0, min a.hi b.hi⟩, true) by rw [hs]; rfl)
  clear hs
  obtain ⟨al, ah⟩ := a
  obtain ⟨bl, bh⟩ := b
  simp only
  have h1 := ha.1.lo; have h2 := ha.1.hi; have h3 := ha.2.lo; have h4 := ha.2.hi
  have h5 := hb.1.lo; have h6 := hb.1.hi; have h7 := hb.2.lo; have h8 := hb.2.hi
  simp only at h1 h2 h3 h4 h5 h6 h7 h8
  have B0 := Lib.hid ((((Bel.refl w).new (.cells #[.int .u64 al, .int .u64 ah] 36)).new (.cells #[.int .u64 bl, .int .u64 bh] 36)).new (.cells #[.int .u64 0, .int .u64 0] 36))
  go_enter Try.func25, Try.ntmps25
  go_wp2
  refine bodyPost_ret (v := .tuple #[.agg #[.int .u64 0, .int .u64 (min ah bh)], .bool true]) ?_ rfl (Rans_mk ?_ ?_)
  · simp [results, Try.results25, go_sem]
  · rw [HW.out]
  · exact (((Bel.refl _).new _).new _).new _

set_option maxRecDepth 100000 in
set_option maxHeartbeats 400000 in
theorem wide_124 (s : ByteArray) (a b : R) (w : World) (ha : UR a) (hb : UR b) (hs : s.toList = [124]) : Calls Try.prog 25 #[.string s, .agg #[.int .u64 a.lo, .int .u64 a.hi], .agg #[.int .u64 b.lo, .int .u64 b.hi]] w (Rans (wide s.toList a b) w) := by
  have e0 : (s.toList == [43]) = false := by rw [hs]; rfl
  have e1 : (s.toList == [45]) = false := by rw [hs]; rfl
  have e2 : (s.toList == [42]) = false := by rw [hs]; rfl
  have e3 : (s.toList == [47]) = false := by rw [hs]; rfl
  have e4 : (s.toList == [37]) = false := by rw [hs]; rfl
  have e5 : (s.toList == [60, 60]) = false := by rw [hs]; rfl
  have e6 : (s.toList == [62, 62]) = false := by rw [hs]; rfl
  have e7 : (s.toList == [38]) = false := by rw [hs]; rfl
  have e8 : (s.toList == [124]) = true := by rw [hs]; rfl
  have HW := Lib.hid (show wide s.toList a b = (⟨max a.lo b.lo, mask (Lib.bitLen (max a.hi b.hi).toNat)⟩, true) by rw [hs]; rfl)
  clear hs
  obtain ⟨al, ah⟩ := a
  obtain ⟨bl, bh⟩ := b
  simp only
  have h1 := ha.1.lo; have h2 := ha.1.hi; have h3 := ha.2.lo; have h4 := ha.2.hi
  have h5 := hb.1.lo; have h6 := hb.1.hi; have h7 := hb.2.lo; have h8 := hb.2.hi
  simp only at h1 h2 h3 h4 h5 h6 h7 h8
  have B0 := Lib.hid ((((Bel.refl w).new (.cells #[.int .u64 al, .int .u64 ah] 36)).new (.cells #[.int .u64 bl, .int .u64 bh] 36)).new (.cells #[.int .u64 0, .int .u64 0] 36))
  go_enter Try.func25, Try.ntmps25
  go_wp2_with fail
  refine still_tail 13 (by kernel_rfl) (by kernel_rfl) ?_
  simp only [List.take_succ_cons, List.take_zero, List.drop_succ_cons, List.drop_zero]
  repeat still_step
  still_call ((Try.bits_Len64 (max ah bh) _ (by omega) (by omega)).mono fun e w' h => h)
  repeat still_step
  still_call ((WordW.mask_any _ _).mono fun e w' h => ⟨h.1, h.2.symm⟩)
  repeat still_step
  refine wpStill_nil ?_
  go_wp2
  refine bodyPost_ret (v := .tuple #[.agg #[.int .u64 (max al bl), .int .u64 (mask (Lib.bitLen (max ah bh).toNat))], .bool true]) ?_ rfl (Rans_mk ?_ ?_)
  · simp [results, Try.results25, go_sem]
  · rw [HW.out]
  · exact ((((Bel.refl _).new _).new _).new _).drew

set_option maxRecDepth 100000 in
set_option maxHeartbeats 400000 in
theorem wide_rest (s : ByteArray) (a b : R) (w : World) (ha : UR a) (hb : UR b) (n0 : s.toList ≠ [43]) (n1 : s.toList ≠ [45]) (n2 : s.toList ≠ [42]) (n3 : s.toList ≠ [47]) (n4 : s.toList ≠ [37]) (n5 : s.toList ≠ [60, 60]) (n6 : s.toList ≠ [62, 62]) (n7 : s.toList ≠ [38]) (n8 : s.toList ≠ [124]) : Calls Try.prog 25 #[.string s, .agg #[.int .u64 a.lo, .int .u64 a.hi], .agg #[.int .u64 b.lo, .int .u64 b.hi]] w (Rans (wide s.toList a b) w) := by
  have e0 : (s.toList == [43]) = false := beq_eq_false_iff_ne.2 n0
  have e1 : (s.toList == [45]) = false := beq_eq_false_iff_ne.2 n1
  have e2 : (s.toList == [42]) = false := beq_eq_false_iff_ne.2 n2
  have e3 : (s.toList == [47]) = false := beq_eq_false_iff_ne.2 n3
  have e4 : (s.toList == [37]) = false := beq_eq_false_iff_ne.2 n4
  have e5 : (s.toList == [60, 60]) = false := beq_eq_false_iff_ne.2 n5
  have e6 : (s.toList == [62, 62]) = false := beq_eq_false_iff_ne.2 n6
  have e7 : (s.toList == [38]) = false := beq_eq_false_iff_ne.2 n7
  have e8 : (s.toList == [124]) = false := beq_eq_false_iff_ne.2 n8
  have HW := Lib.hid (show wide s.toList a b = (⟨0, 1⟩, (op s.toList 0 1).2 == 0) by simp [wide, *])
  clear n0 n1 n2 n3 n4 n5 n6 n7 n8
  have hm : mask 1 = 1 := by decide
  obtain ⟨al, ah⟩ := a
  obtain ⟨bl, bh⟩ := b
  simp only
  have B0 := Lib.hid ((((Bel.refl w).new (.cells #[.int .u64 al, .int .u64 ah] 36)).new (.cells #[.int .u64 bl, .int .u64 bh] 36)).new (.cells #[.int .u64 0, .int .u64 0] 36))
  go_enter Try.func25, Try.ntmps25
  go_wp2_with (first
    | (go_at_call 17; refine (all_any _ _).mono ?_; rintro e w' ⟨rfl, hbl⟩; obtain ⟨hc, hf⟩ := bcell hbl; have hz := hbl.size; simp at hz; have HB := Lib.hid (B0.out.then hbl); clear hbl)
    | (go_at_call 24; refine (WordW.op_any _ _ _ _ ⟨by decide, by decide⟩ ⟨by decide, by decide⟩).mono ?_; rintro e w' ⟨rfl, rfl⟩))
  refine bodyPost_ret (v := .tuple #[.agg #[.int .u64 0, .int .u64 1], .bool ((op s.toList 0 1).2 == 0)]) ?_ rfl (Rans_mk ?_ ?_)
  · simp [results, Try.results25, go_sem, *]
  · rw [HW.out]
  · exact (HB.out.store (p := ⟨w.heap.size + 1 + 1, 0, none⟩) (by simp; omega) _).store (p := ⟨w.heap.size + 1 + 1, 1, none⟩) (by simp; omega) _

theorem wide_any (s : ByteArray) (a b : R) (w : World) (ha : UR a) (hb : UR b)  : Calls Try.prog 25 #[.string s, .agg #[.int .u64 a.lo, .int .u64 a.hi], .agg #[.int .u64 b.lo, .int .u64 b.hi]] w (Rans (wide s.toList a b) w) := by
  by_cases n0 : s.toList = [43]
  · exact wide_43 s a b w ha hb n0
  by_cases n1 : s.toList = [45]
  · exact wide_45 s a b w ha hb n1
  by_cases n2 : s.toList = [42]
  · exact wide_42 s a b w ha hb n2
  by_cases n3 : s.toList = [47]
  · exact wide_47 s a b w ha hb n3
  by_cases n4 : s.toList = [37]
  · exact wide_37 s a b w ha hb n4
  by_cases n5 : s.toList = [60, 60]
  · exact wide_60_60 s a b w ha hb n5
  by_cases n6 : s.toList = [62, 62]
  · exact wide_62_62 s a b w ha hb n6
  by_cases n7 : s.toList = [38]
  · exact wide_38 s a b w ha hb n7
  by_cases n8 : s.toList = [124]
  · exact wide_124 s a b w ha hb n8
  exact wide_rest s a b w ha hb n0 n1 n2 n3 n4 n5 n6 n7 n8

set_option maxRecDepth 100000 in
set_option maxHeartbeats 1000000 in
theorem bop_any (s : ByteArray) (a b : R) (w : World) (ha : UR a) (hb : UR b) : Calls Try.prog 16 #[.string s, .agg #[.int .u64 a.lo, .int .u64 a.hi], .agg #[.int .u64 b.lo, .int .u64 b.hi]] w (Rans (bop s.toList a b) w) := by
  have HWD := Lib.hid (fun w => wide_any s a b w ha hb)
  have HOP := Lib.hid (fun w => WordW.op_any s a.lo b.lo w ha.1 hb.1)
  generalize hr : bop s.toList a b = r
  have HR := Lib.hid hr
  clear hr
  obtain ⟨al, ah⟩ := a
  obtain ⟨bl, bh⟩ := b
  simp only at HR HWD HOP ⊢
  by_cases g1 : al ≤ ah
  · have d1 : decide (al ≤ ah) = true := decide_eq_true g1
    by_cases g2 : bl ≤ bh
    · have d2 : decide (bl ≤ bh) = true := decide_eq_true g2
      by_cases g3 : al = ah ∧ bl = bh
      · have d3 : (al == ah) = true := beq_iff_eq.2 g3.1
        have d4 : (bl == bh) = true := beq_iff_eq.2 g3.2
        by_cases g4 : (op s.toList al bl).2 = 0
        · have hR : r = (⟨(op s.toList al bl).1, (op s.toList al bl).1⟩, true) := by rw [← HR.out]; unfold bop; rw [if_pos ⟨g1, g2⟩, if_pos g3, if_pos g4]
          have HR2 := Lib.hid hR
          have d5 : ((op s.toList al bl).2 != 0) = false := by simp [g4]
          clear hR HR g1 g2 g3 g4
          go_enter Try.func16, Try.ntmps16
          go_wp2_with (first
            | (go_at_call 24; refine (HOP.out _).mono ?_; rintro e w' ⟨rfl, rfl⟩)
            | (go_at_call 8; refine (point_exact _ _).mono ?_; rintro e w' ⟨rfl, rfl⟩)
            | go_in)
          refine bodyPost_ret (v := .tuple #[.agg #[.int .u64 (op s.toList al bl).1, .int .u64 (op s.toList al bl).1], .bool true]) (by simp [results, Try.results16, go_sem]) rfl (Rans_mk (by rw [HR2.out]) ?_)
          exact by repeat (first | exact Bel.refl _ | refine Bel.new ?_ _)
        · have hR : r = none2 := by rw [← HR.out]; unfold bop; rw [if_pos ⟨g1, g2⟩, if_pos g3, if_neg g4]
          have HR2 := Lib.hid hR
          have d5 : ((op s.toList al bl).2 != 0) = true := by simp [g4]
          clear hR HR g1 g2 g3 g4
          go_enter Try.func16, Try.ntmps16
          go_wp2_with (first
            | (go_at_call 24; refine (HOP.out _).mono ?_; rintro e w' ⟨rfl, rfl⟩)
            | (go_at_call 8; refine (point_exact _ _).mono ?_; rintro e w' ⟨rfl, rfl⟩)
            | go_in)
          refine bodyPost_ret (v := .tuple #[.agg #[.int .u64 0, .int .u64 0], .bool false]) (by simp [results, Try.results16, go_sem]) rfl (Rans_mk (by rw [HR2.out]; rfl) ?_)
          exact by repeat (first | exact Bel.refl _ | refine Bel.new ?_ _)
      · have d34 : Hid ((al == ah) = false ∨ (bl == bh) = false) := by
          refine Lib.hid ?_
          by_cases q : al = ah
          · exact .inr (beq_eq_false_iff_ne.2 fun h => g3 ⟨q, h⟩)
          · exact .inl (beq_eq_false_iff_ne.2 q)
        have d56 : Hid ((al == ah) = false ∨ ((al == ah) = true ∧ (bl == bh) = false)) := by
          refine Lib.hid ?_
          rcases d34.out with h | h
          · exact .inl h
          · by_cases q : (al == ah) = true
            · exact .inr ⟨q, h⟩
            · exact .inl (by simpa using q)
        clear d34
        by_cases g4 : (wide s.toList ⟨al, ah⟩ ⟨bl, bh⟩).2 = true
        · have hR : r = ((wide s.toList ⟨al, ah⟩ ⟨bl, bh⟩).1, true) := by rw [← HR.out]; unfold bop; rw [if_pos ⟨g1, g2⟩, if_neg g3, if_pos g4]
          have HR2 := Lib.hid hR
          clear hR HR g1 g2 g3
          rcases d56.out with q1 | ⟨q1, q2⟩
          all_goals
            go_enter Try.func16, Try.ntmps16
            go_wp2_with (first
              | (go_at_call 25; refine (HWD.out _).mono ?_; rintro e w' ⟨rfl, hbl⟩; obtain ⟨hc, hf⟩ := bcell hbl; obtain ⟨hc2, hf2⟩ := acell hbl; have hz := hbl.size; simp at hz; have HB := Lib.hid hbl; clear hbl)
              | go_in)
            refine bodyPost_ret (v := .tuple #[.agg #[.int .u64 (wide s.toList ⟨al, ah⟩ ⟨bl, bh⟩).1.lo, .int .u64 (wide s.toList ⟨al, ah⟩ ⟨bl, bh⟩).1.hi], .bool true]) ?_ rfl (Rans_mk (by rw [HR2.out]) ?_)
            · simp [results, Try.results16, go_sem, *]
            · refine Bel.store (Bel.store (Bel.new (Bel.then ?_ HB.out) _) ?_ _) ?_ _
              · exact by repeat (first | exact Bel.refl _ | refine Bel.new ?_ _)
              · simp; omega
              · simp; omega
        · have hR : r = none2 := by rw [← HR.out]; unfold bop; rw [if_pos ⟨g1, g2⟩, if_neg g3, if_neg g4]
          have HR2 := Lib.hid hR
          have g5 : (wide s.toList ⟨al, ah⟩ ⟨bl, bh⟩).2 = false := by simpa using g4
          clear hR HR g1 g2 g3 g4
          rcases d56.out with q1 | ⟨q1, q2⟩
          all_goals
            go_enter Try.func16, Try.ntmps16
            go_wp2_with (first
              | (go_at_call 25; refine (HWD.out _).mono ?_; rintro e w' ⟨rfl, hbl⟩; obtain ⟨hc, hf⟩ := bcell hbl; obtain ⟨hc2, hf2⟩ := acell hbl; have hz := hbl.size; simp at hz; have HB := Lib.hid hbl; clear hbl)
              | go_in)
            refine bodyPost_ret (v := .tuple #[.agg #[.int .u64 0, .int .u64 0], .bool false]) ?_ rfl (Rans_mk (by rw [HR2.out]; rfl) ?_)
            · simp [results, Try.results16, go_sem, *]
            · refine Bel.store (Bel.store (Bel.new (Bel.then ?_ HB.out) _) ?_ _) ?_ _
              · exact by repeat (first | exact Bel.refl _ | refine Bel.new ?_ _)
              · simp; omega
              · simp; omega
    · have hR : r = none2 := by rw [← HR.out]; unfold bop; rw [if_neg (fun h => g2 h.2)]
      have HR2 := Lib.hid hR
      have d2 : decide (bl ≤ bh) = false := decide_eq_false g2
      clear hR HR g1 g2
      go_enter Try.func16, Try.ntmps16
      go_wp2_with go_in
      refine bodyPost_ret (v := .tuple #[.agg #[.int .u64 0, .int .u64 0], .bool false]) (by simp [results, Try.results16, go_sem]) rfl (Rans_mk (by rw [HR2.out]; rfl) ?_)
      exact by repeat (first | exact Bel.refl _ | refine Bel.new ?_ _)
  · have hR : r = none2 := by rw [← HR.out]; unfold bop; rw [if_neg (fun h => g1 h.1)]
    have HR2 := Lib.hid hR
    have d1 : decide (al ≤ ah) = false := decide_eq_false g1
    clear hR HR g1
    go_enter Try.func16, Try.ntmps16
    go_wp2_with go_in
    refine bodyPost_ret (v := .tuple #[.agg #[.int .u64 0, .int .u64 0], .bool false]) (by simp [results, Try.results16, go_sem]) rfl (Rans_mk (by rw [HR2.out]; rfl) ?_)
    exact by repeat (first | exact Bel.refl _ | refine Bel.new ?_ _)
end Go.Proofs.Ytadigpaglappbaa.Bounds2T
