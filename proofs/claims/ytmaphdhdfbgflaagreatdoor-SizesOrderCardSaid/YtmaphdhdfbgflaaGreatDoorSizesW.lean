/- The walks of layer 12 (sizes): sums and products of sizes, the program's and the document's. -/
import Derived.Test.YtmaphdhdfbgflaaGreatDoorMul2W
import Derived.Test.YtmaphdhdfbgflaaGreatDoorMem
set_option linter.unusedVariables false
namespace Go.Proofs.YtmaphdhdfbgflaaGreatDoor.SizesW
open Go.RowKit Go.Proofs.YtmaphdhdfbgflaaGreatDoor.Word Go.Proofs.YtmaphdhdfbgflaaGreatDoor.WordW Go.Proofs.YtmaphdhdfbgflaaGreatDoor.MulW Go.Proofs.YtmaphdhdfbgflaaGreatDoor.Mem

/-- The greatest size. -/
def M : Int := 1099511627776
/-- A number that is told, at most the greatest size. -/
def capd (p : Int × Int) : Int := if p.2 = 0 then min p.1 M else M
/-- A range; only new blocks. -/
def Ran (x y : Int) (w : World) (e : Ending) (w' : World) : Prop := e = .returned (.agg #[.int .u64 x, .int .u64 y]) ∧ Bel w w'
theorem Ran_mk {x y x' y' : Int} {w w' : World} (h : x = x') (k : y = y') (hb : Bel w w') : Ran x' y' w (.returned (.agg #[.int .u64 x, .int .u64 y])) w' := by subst h k; exact ⟨rfl, hb⟩

theorem new_heap (w : World) (o : Obj) : (w.alloc o).heap[w.heap.size]? = some o := by
  show (w.heap.push o)[w.heap.size]? = some o
  simp

theorem cell_of {w : World} {b : Nat} {c : Array Value} {t : TypeId} (h : w.heap[b]? = some (.cells c t (0, 0))) (i : Nat) : w.cell? ⟨b, i, none⟩ = c[i]? := by simp [World.cell?, h]
theorem frozen_of {w : World} {b : Nat} {c : Array Value} {t : TypeId} (h : w.heap[b]? = some (.cells c t (0, 0))) (i : Nat) : w.frozen? ⟨b, i, none⟩ = false := by simp [World.frozen?, h]
theorem capped_any (n e : Int) (w : World) : Calls Tryz.prog 14 #[.int .u64 n, .int .i64 e] w fun r w' => r = .returned (.int .u64 (capd (n, e))) ∧ w = w' := by
  by_cases h : e = 0
  · subst h
    go_enter Tryz.func14, Tryz.ntmps14
    go_wp2
    go_ret
    exact ⟨by simp [capd, M], rfl⟩
  · have hb : (e == 0) = false := beq_eq_false_iff_ne.2 h
    have hb2 : (e != 0) = true := by simp [h]
    go_enter Tryz.func14, Tryz.ntmps14
    go_wp2
    go_ret
    exact ⟨by simp [capd, M, h], rfl⟩

theorem cap1_any (n e : Int) (w : World) : Calls Tryz.prog 17 #[.int .u64 n, .int .i64 e] w fun r w' => r = .returned (.int .u64 (capd (n, e))) ∧ w = w' := by
  by_cases h : e = 0
  · subst h
    by_cases hn : 1099511627776 < n
    · have hd : decide (1099511627776 < n) = true := decide_eq_true hn
      go_enter Tryz.func17, Tryz.ntmps17
      go_wp2
      go_ret
      exact ⟨by simp [capd, M]; omega, rfl⟩
    · have hd : decide (1099511627776 < n) = false := decide_eq_false hn
      go_enter Tryz.func17, Tryz.ntmps17
      go_wp2
      go_ret
      exact ⟨by simp [capd, M]; omega, rfl⟩
  · have hb : (e == 0) = false := beq_eq_false_iff_ne.2 h
    have hb2 : (e != 0) = true := by simp [h]
    go_enter Tryz.func17, Tryz.ntmps17
    go_wp2
    go_ret
    exact ⟨by simp [capd, M, h], rfl⟩

set_option maxRecDepth 100000 in
set_option maxHeartbeats 1000000 in
theorem add_any (a b c d : Int) (w : World) (ha : U a) (hb : U b) (hc : U c) (hd : U d) : Calls Tryz.prog 6 #[.agg #[.int .u64 a, .int .u64 b], .agg #[.int .u64 c, .int .u64 d]] w (Ran (capd (add a c)) (capd (add b d)) w) := by
  have H1 := Lib.hid (fun w => WordW.add_any a c w ha hc)
  have H2 := Lib.hid (fun w => WordW.add_any b d w hb hd)
  clear ha hb hc hd
  obtain ⟨⟨p1, p2⟩, hp⟩ : ∃ p, add a c = p := ⟨_, rfl⟩
  obtain ⟨⟨q1, q2⟩, hq⟩ : ∃ p, add b d = p := ⟨_, rfl⟩
  rw [hp] at H1
  rw [hq] at H2
  rw [hp, hq]
  clear hp hq
  go_enter Tryz.func6, Tryz.ntmps6
  go_wp2_with fail
  refine still_tail 17 (by kernel_rfl) (by kernel_rfl) ?_
  simp only [List.take_succ_cons, List.take_zero, List.drop_succ_cons, List.drop_zero]
  repeat still_step
  still_call ((H1.out _).mono fun e w' h => ⟨h.1, h.2.symm⟩)
  repeat still_step
  still_call ((capped_any p1 p2 _).mono fun e w' h => ⟨h.1, h.2.symm⟩)
  repeat still_step
  still_call ((H2.out _).mono fun e w' h => ⟨h.1, h.2.symm⟩)
  repeat still_step
  still_call ((capped_any q1 q2 _).mono fun e w' h => ⟨h.1, h.2.symm⟩)
  repeat still_step
  refine wpStill_nil ?_
  go_wp2
  refine bodyPost_ret (v := .agg #[.int .u64 (capd (p1, p2)), .int .u64 (capd (q1, q2))]) ?_ rfl (Ran_mk rfl rfl ?_)
  · simp [results, Tryz.results6, go_sem]
  · exact ((((Bel.refl _).new _).new _).new _).drew

set_option maxRecDepth 100000 in
set_option maxHeartbeats 1000000 in
theorem times_any (a b c d : Int) (w : World) (ha : U a) (hb : U b) (hc : U c) (hd : U d) : Calls Tryz.prog 8 #[.agg #[.int .u64 a, .int .u64 b], .agg #[.int .u64 c, .int .u64 d]] w (Ran (capd (mul a c)) (capd (mul b d)) w) := by
  have H1 := Lib.hid (fun w => WordW.mul_any a c w ha hc)
  have H2 := Lib.hid (fun w => WordW.mul_any b d w hb hd)
  clear ha hb hc hd
  obtain ⟨⟨p1, p2⟩, hp⟩ : ∃ p, mul a c = p := ⟨_, rfl⟩
  obtain ⟨⟨q1, q2⟩, hq⟩ : ∃ p, mul b d = p := ⟨_, rfl⟩
  rw [hp] at H1
  rw [hq] at H2
  rw [hp, hq]
  clear hp hq
  go_enter Tryz.func8, Tryz.ntmps8
  go_wp2_with fail
  refine still_tail 17 (by kernel_rfl) (by kernel_rfl) ?_
  simp only [List.take_succ_cons, List.take_zero, List.drop_succ_cons, List.drop_zero]
  repeat still_step
  still_call ((H1.out _).mono fun e w' h => ⟨h.1, h.2.symm⟩)
  repeat still_step
  still_call ((capped_any p1 p2 _).mono fun e w' h => ⟨h.1, h.2.symm⟩)
  repeat still_step
  still_call ((H2.out _).mono fun e w' h => ⟨h.1, h.2.symm⟩)
  repeat still_step
  still_call ((capped_any q1 q2 _).mono fun e w' h => ⟨h.1, h.2.symm⟩)
  repeat still_step
  refine wpStill_nil ?_
  go_wp2
  refine bodyPost_ret (v := .agg #[.int .u64 (capd (p1, p2)), .int .u64 (capd (q1, q2))]) ?_ rfl (Ran_mk rfl rfl ?_)
  · simp [results, Tryz.results8, go_sem]
  · exact ((((Bel.refl _).new _).new _).new _).drew

set_option maxRecDepth 100000 in
set_option maxHeartbeats 1000000 in
theorem radd_any (a b c d : Int) (w : World) (ha : U a) (hb : U b) (hc : U c) (hd : U d) : Calls Tryz.prog 7 #[.agg #[.int .u64 a, .int .u64 b], .agg #[.int .u64 c, .int .u64 d]] w (Ran (capd (add a c)) (capd (add b d)) w) := by
  have H1 := Lib.hid (fun w => MulW.add_any a c w ha hc)
  have H2 := Lib.hid (fun w => MulW.add_any b d w hb hd)
  clear ha hb hc hd
  obtain ⟨⟨p1, p2⟩, hp⟩ : ∃ p, add a c = p := ⟨_, rfl⟩
  obtain ⟨⟨q1, q2⟩, hq⟩ : ∃ p, add b d = p := ⟨_, rfl⟩
  rw [hp] at H1
  rw [hq] at H2
  rw [hp, hq]
  clear hp hq
  have B0 := Lib.hid ((((Bel.refl w).new (.cells #[.int .u64 a, .int .u64 b] 26)).new (.cells #[.int .u64 c, .int .u64 d] 26)).new (.cells #[.int .u64 0, .int .u64 0] 26))
  go_enter Tryz.func7, Tryz.ntmps7
  go_wp2_with fail
  refine (H1.out _).mono ?_
  rintro e w1 ⟨rfl, hb1⟩
  obtain ⟨hc1, hf1⟩ := bcell hb1
  have hz1 := hb1.size
  simp at hz1
  have HB1 := Lib.hid (B0.out.then hb1)
  clear hb1
  go_wp2_with fail
  refine (H2.out _).mono ?_
  rintro e w2 ⟨rfl, hb2⟩
  obtain ⟨hc2, hf2⟩ := bcell hb2
  have hz2 := hb2.size
  have hr : w.heap.size + 1 + 1 < w1.heap.size := by omega
  have hh : ((((w.alloc (.cells #[.int .u64 a, .int .u64 b] 26)).alloc (.cells #[.int .u64 c, .int .u64 d] 26)).alloc (.cells #[.int .u64 0, .int .u64 0] 26)).heap[w.heap.size + 1 + 1]?) = some (.cells #[.int .u64 0, .int .u64 0] 26 (0, 0)) := by
    have := new_heap ((w.alloc (.cells #[.int .u64 a, .int .u64 b] 26)).alloc (.cells #[.int .u64 c, .int .u64 d] 26)) (.cells #[.int .u64 0, .int .u64 0] 26)
    rwa [World.size_alloc, World.size_alloc] at this
  have e0 : w2.cell? ⟨w.heap.size + 1 + 1, 0, none⟩ = some (.int .u64 0) := (hc2 _ _ hr).trans ((hc1 (w.heap.size + 1 + 1) 0 (by simp)).trans ((cell_of hh _).trans rfl))
  have e1 : w2.cell? ⟨w.heap.size + 1 + 1, 1, none⟩ = some (.int .u64 0) := (hc2 _ _ hr).trans ((hc1 (w.heap.size + 1 + 1) 1 (by simp)).trans ((cell_of hh _).trans rfl))
  have e2 : w2.frozen? ⟨w.heap.size + 1 + 1, 0, none⟩ = false := (hf2 _ _ hr).trans ((hf1 (w.heap.size + 1 + 1) 0 (by simp)).trans (frozen_of hh _))
  have e3 : w2.frozen? ⟨w.heap.size + 1 + 1, 1, none⟩ = false := (hf2 _ _ hr).trans ((hf1 (w.heap.size + 1 + 1) 1 (by simp)).trans (frozen_of hh _))
  have HB2 := Lib.hid (HB1.out.then hb2)
  clear hb2 hc1 hf1 hc2 hf2 hh
  go_wp2_with fail
  refine (cap1_any p1 p2 _).mono ?_
  rintro e w' ⟨rfl, rfl⟩
  go_wp2_with fail
  refine (cap1_any q1 q2 _).mono ?_
  rintro e w' ⟨rfl, rfl⟩
  go_wp2_with fail
  refine bodyPost_ret (v := .agg #[.int .u64 (capd (p1, p2)), .int .u64 (capd (q1, q2))]) ?_ rfl (Ran_mk rfl rfl ?_)
  · simp [results, Tryz.results7, go_sem, e0, e1]
  · exact (HB2.out.store (p := ⟨w.heap.size + 1 + 1, 0, none⟩) (by simp; omega) _).store (p := ⟨w.heap.size + 1 + 1, 1, none⟩) (by simp; omega) _

set_option maxRecDepth 100000 in
set_option maxHeartbeats 1000000 in
theorem rtimes_any (a b c d : Int) (w : World) (ha : U a) (hb : U b) (hc : U c) (hd : U d) : Calls Tryz.prog 9 #[.agg #[.int .u64 a, .int .u64 b], .agg #[.int .u64 c, .int .u64 d]] w (Ran (capd (mul a c)) (capd (mul b d)) w) := by
  have H1 := Lib.hid (fun w => Mul2W.mul_any a c w ha hc)
  have H2 := Lib.hid (fun w => Mul2W.mul_any b d w hb hd)
  clear ha hb hc hd
  obtain ⟨⟨p1, p2⟩, hp⟩ : ∃ p, mul a c = p := ⟨_, rfl⟩
  obtain ⟨⟨q1, q2⟩, hq⟩ : ∃ p, mul b d = p := ⟨_, rfl⟩
  rw [hp] at H1
  rw [hq] at H2
  rw [hp, hq]
  clear hp hq
  have B0 := Lib.hid ((((Bel.refl w).new (.cells #[.int .u64 a, .int .u64 b] 26)).new (.cells #[.int .u64 c, .int .u64 d] 26)).new (.cells #[.int .u64 0, .int .u64 0] 26))
  go_enter Tryz.func9, Tryz.ntmps9
  go_wp2_with fail
  refine (H1.out _).mono ?_
  rintro e w1 ⟨rfl, hb1⟩
  obtain ⟨hc1, hf1⟩ := bcell hb1
  have hz1 := hb1.size
  simp at hz1
  have HB1 := Lib.hid (B0.out.then hb1)
  clear hb1
  go_wp2_with fail
  refine (H2.out _).mono ?_
  rintro e w2 ⟨rfl, hb2⟩
  obtain ⟨hc2, hf2⟩ := bcell hb2
  have hz2 := hb2.size
  have hr : w.heap.size + 1 + 1 < w1.heap.size := by omega
  have hh : ((((w.alloc (.cells #[.int .u64 a, .int .u64 b] 26)).alloc (.cells #[.int .u64 c, .int .u64 d] 26)).alloc (.cells #[.int .u64 0, .int .u64 0] 26)).heap[w.heap.size + 1 + 1]?) = some (.cells #[.int .u64 0, .int .u64 0] 26 (0, 0)) := by
    have := new_heap ((w.alloc (.cells #[.int .u64 a, .int .u64 b] 26)).alloc (.cells #[.int .u64 c, .int .u64 d] 26)) (.cells #[.int .u64 0, .int .u64 0] 26)
    rwa [World.size_alloc, World.size_alloc] at this
  have e0 : w2.cell? ⟨w.heap.size + 1 + 1, 0, none⟩ = some (.int .u64 0) := (hc2 _ _ hr).trans ((hc1 (w.heap.size + 1 + 1) 0 (by simp)).trans ((cell_of hh _).trans rfl))
  have e1 : w2.cell? ⟨w.heap.size + 1 + 1, 1, none⟩ = some (.int .u64 0) := (hc2 _ _ hr).trans ((hc1 (w.heap.size + 1 + 1) 1 (by simp)).trans ((cell_of hh _).trans rfl))
  have e2 : w2.frozen? ⟨w.heap.size + 1 + 1, 0, none⟩ = false := (hf2 _ _ hr).trans ((hf1 (w.heap.size + 1 + 1) 0 (by simp)).trans (frozen_of hh _))
  have e3 : w2.frozen? ⟨w.heap.size + 1 + 1, 1, none⟩ = false := (hf2 _ _ hr).trans ((hf1 (w.heap.size + 1 + 1) 1 (by simp)).trans (frozen_of hh _))
  have HB2 := Lib.hid (HB1.out.then hb2)
  clear hb2 hc1 hf1 hc2 hf2 hh
  go_wp2_with fail
  refine (cap1_any p1 p2 _).mono ?_
  rintro e w' ⟨rfl, rfl⟩
  go_wp2_with fail
  refine (cap1_any q1 q2 _).mono ?_
  rintro e w' ⟨rfl, rfl⟩
  go_wp2_with fail
  refine bodyPost_ret (v := .agg #[.int .u64 (capd (p1, p2)), .int .u64 (capd (q1, q2))]) ?_ rfl (Ran_mk rfl rfl ?_)
  · simp [results, Tryz.results9, go_sem, e0, e1]
  · exact (HB2.out.store (p := ⟨w.heap.size + 1 + 1, 0, none⟩) (by simp; omega) _).store (p := ⟨w.heap.size + 1 + 1, 1, none⟩) (by simp; omega) _
end Go.Proofs.YtmaphdhdfbgflaaGreatDoor.SizesW
