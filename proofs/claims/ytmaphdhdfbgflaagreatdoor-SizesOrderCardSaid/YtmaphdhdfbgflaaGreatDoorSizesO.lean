/- The walk of the law SizesOrder (printed by a program). -/
import Derived.Test.YtmaphdhdfbgflaaGreatDoorSizesW
import Derived.Test.YtmaphdhdfbgflaaGreatDoorRegHead
import Derived.Test.YtmaphdhdfbgflaaGreatDoorWakes
set_option linter.unusedVariables false
namespace Go.Proofs.YtmaphdhdfbgflaaGreatDoor.SizesO
open Go.RowKit Go.Sort Go.Proofs.YtmaphdhdfbgflaaGreatDoor.Word Go.Proofs.YtmaphdhdfbgflaaGreatDoor.WordW Go.Proofs.YtmaphdhdfbgflaaGreatDoor.MulW Go.Proofs.YtmaphdhdfbgflaaGreatDoor.Mem Go.Proofs.YtmaphdhdfbgflaaGreatDoor.RegHead Go.Proofs.YtmaphdhdfbgflaaGreatDoor.SizesW Go.Abs

def Yes (w : World) (e : Ending) (w' : World) : Prop := e = .returned (.bool true) ∧ Bel w w'
theorem arr_cells (x0 x1 x2 x3 : Value) (t : TypeId) (w W : World) (h : W = w.alloc (.cells #[x0, x1, x2, x3] t)) :
    W.cell? ⟨w.heap.size, 0, none⟩ = some x0 ∧ W.cell? ⟨w.heap.size, 1, none⟩ = some x1 ∧ W.cell? ⟨w.heap.size, 2, none⟩ = some x2 ∧ W.cell? ⟨w.heap.size, 3, none⟩ = some x3 ∧ w.heap.size < W.heap.size ∧ Bel w W := by
  subst h
  exact ⟨World.cell?_alloc_at _ _ _ _ rfl, World.cell?_alloc_at _ _ _ _ rfl, World.cell?_alloc_at _ _ _ _ rfl, World.cell?_alloc_at _ _ _ _ rfl, by simp, (Bel.refl _).new _⟩

theorem capd_told (n : Int) (h : 0 ≤ n) : capd (Word.told n (decide (n ≤ top))) = min n M := by
  unfold capd Word.told top M
  by_cases hn : n ≤ 18446744073709551615
  · simp [hn]
  · simp [hn]; omega
theorem capd_add {a b : Int} (ha : 0 ≤ a) (hb : 0 ≤ b) : capd (add a b) = min (a + b) M := capd_told (a + b) (by omega)
theorem capd_mul {a b : Int} (h : 0 ≤ a * b) : capd (mul a b) = min (a * b) M := capd_told (a * b) h
/-- So often a size is added. -/
def times (k : Nat) (x : Int) : Int := min (k * x) M
theorem times_zero (x : Int) : times 0 x = 0 := by simp [times, M]; omega
theorem times_U (k : Nat) {x : Int} (hx : 0 ≤ x) : U (times k x) := by
  have : 0 ≤ (k : Int) * x := Int.mul_nonneg (by omega) hx
  unfold times M
  exact ⟨by omega, by unfold top; omega⟩
theorem times_succ (k : Nat) {x : Int} (hx : 0 ≤ x) : capd (add (times k x) x) = times (k + 1) x := by
  rw [capd_add (times_U k hx).1 hx]
  have h0 : 0 ≤ (k : Int) * x := Int.mul_nonneg (by omega) hx
  have h1 : ((k + 1 : Nat) : Int) * x = k * x + x := by rw [Int.natCast_add, Int.add_mul]; simp
  unfold times
  rw [h1]
  unfold M
  omega
theorem times_mul (k : Nat) {x : Int} (hx : 0 ≤ x) : capd (mul k x) = times k x := capd_mul (Int.mul_nonneg (by omega) hx)
theorem add_comm' (a b : Int) : add a b = add b a := by unfold add; rw [Int.add_comm]
theorem mul_comm' (a b : Int) : mul a b = mul b a := by unfold mul; rw [Int.mul_comm]

theorem wrap_small : ∀ j : Fin 20, IntKind.u64.wrap ((j : Nat) : Int) = ((j : Nat) : Int) := by decide
theorem two0 {w : World} {B : Nat} {u x y : Value} (h : w.cell? ⟨B, 0, none⟩ = some u) : ((w.setCell ⟨B, 0, none⟩ x).setCell ⟨B, 1, none⟩ y).cell? ⟨B, 0, none⟩ = some x :=
  (World.cell?_setCell_other _ _ _ _ (by simp)).trans (World.cell?_setCell_same _ _ _ h)
theorem two1 {w : World} {B : Nat} {u x y : Value} (h : w.cell? ⟨B, 1, none⟩ = some u) : ((w.setCell ⟨B, 0, none⟩ x).setCell ⟨B, 1, none⟩ y).cell? ⟨B, 1, none⟩ = some y :=
  World.cell?_setCell_same _ _ _ ((World.cell?_setCell_other _ _ _ _ (by simp)).trans h)
theorem point_any (n : Int) (w : World) : Calls Tryz.prog 10 #[.int .u64 n] w (Ran n n w) := by
  go_enter Tryz.func10, Tryz.ntmps10
  go_wp2
  exact bodyPost_ret (v := .agg #[.int .u64 n, .int .u64 n]) (by simp [results, Tryz.results10, go_sem]) rfl (Ran_mk rfl rfl ((Bel.refl _).new _))

set_option maxRecDepth 100000 in
set_option maxHeartbeats 4000000 in
theorem sizesOrder_any (x0 x1 x2 x3 n : Int) (w : World) (hg : Holds Run.glob w) (u0 : U x0) (u1 : U x1) (u2 : U x2) (u3 : U x3) (n0 : 0 ≤ n) (n1 : n ≤ 255) :
    Calls Tryz.prog 4 #[.agg #[.int .u64 x0, .int .u64 x1, .int .u64 x2, .int .u64 x3], .int .u8 n] w (Yes w) := by
  have HG := Lib.hid hg
  clear hg
  go_enter Tryz.func4, Tryz.ntmps4
  go_upto_region 1 with fail
  obtain ⟨W, hW⟩ : ∃ W, W = w.alloc (.cells #[.int .u64 x0, .int .u64 x1, .int .u64 x2, .int .u64 x3] 23) := ⟨_, rfl⟩
  obtain ⟨c0, c1, c2, c3, sz, hbW⟩ := arr_cells _ _ _ _ _ _ _ hW
  rw [← hW]
  have HBW0 := Lib.hid hbW
  clear hbW hW
  go_cut [5, 6] (fun s7 s8 wx => ∃ g h : Nat, s7 = .pointer (some ⟨g, 0, none⟩) ∧ s8 = .pointer (some ⟨h, 0, none⟩) ∧ g < wx.heap.size ∧ h < wx.heap.size ∧ Bel W wx ∧ wx.cell? ⟨g, 0, none⟩ = some (.int .u64 x0) ∧ wx.cell? ⟨g, 1, none⟩ = some (.int .u64 x1) ∧ wx.cell? ⟨h, 0, none⟩ = some (.int .u64 x2) ∧ wx.cell? ⟨h, 1, none⟩ = some (.int .u64 x3))
  case first =>
    have HBW : Hid (Bel W W) := Lib.hid (Bel.refl _)
    have k0 := cell_grow c0
    have k1 := cell_grow c1
    have k2 := cell_grow c2
    have k3 := cell_grow c3
    refine region_head 10 (by kernel_rfl) (by kernel_rfl) ?_
    simp only [List.take_succ_cons, List.take_zero]
    repeat (refine wpIf_step (fun K hK => ?_); go_simp; refine hK _ ?_; clear hK K)
    refine wpIf_nil ?_
    simp only [listN, List.length_cons, List.length_nil, Nat.reduceAdd, Nat.reduceSub, Array.replicate_succ, Array.replicate_zero, List.push_toArray, List.setIfInBounds_toArray, List.set_cons_zero, List.set_cons_succ, List.cons_append, List.nil_append]
    all_goals
      first
      | refine wpAnyH_all (rs := [10, 11]) (by decide +kernel) (by simp) ?_
      | refine wpAnyH_all (rs := [11, 12]) (by decide +kernel) (by simp) ?_
      | refine wpAnyH_all (rs := [10, 13]) (by decide +kernel) (by simp) ?_
      | refine wpAnyH_all (rs := [11]) (by decide +kernel) (by simp) ?_
      | refine wpAnyH_all (rs := [10]) (by decide +kernel) (by simp) ?_
      | refine wpAnyH_all (rs := [12, 13]) (by decide +kernel) (by simp) ?_
      | refine wpAnyH_all (rs := [12]) (by decide +kernel) (by simp) ?_
      | refine wpAnyH_all (rs := [13]) (by decide +kernel) (by simp) ?_
    all_goals
      intro i hi
      simp only [List.mem_cons, List.not_mem_nil, or_false] at hi
      first
      | (rcases hi with rfl | rfl)
      | subst hi
    all_goals
      refine wpOp_mk rfl rfl (fun K hK => ?_)
      go_simp
      refine hK _ _ ⟨regrown_mk (by repeat (first | exact Bel.refl _ | refine Bel.drew ?_ | refine Bel.new ?_ _ | (refine Bel.store ?_ (by simp) _))), ?_⟩
      clear hK K
    all_goals
      first
      | refine wpAnyH_all (rs := [10, 11]) (by decide +kernel) (by simp) ?_
      | refine wpAnyH_all (rs := [11, 12]) (by decide +kernel) (by simp) ?_
      | refine wpAnyH_all (rs := [10, 13]) (by decide +kernel) (by simp) ?_
      | refine wpAnyH_all (rs := [11]) (by decide +kernel) (by simp) ?_
      | refine wpAnyH_all (rs := [10]) (by decide +kernel) (by simp) ?_
      | refine wpAnyH_all (rs := [12, 13]) (by decide +kernel) (by simp) ?_
      | refine wpAnyH_all (rs := [12]) (by decide +kernel) (by simp) ?_
      | refine wpAnyH_all (rs := [13]) (by decide +kernel) (by simp) ?_
    all_goals
      intro i hi
      simp only [List.mem_cons, List.not_mem_nil, or_false] at hi
      first
      | (rcases hi with rfl | rfl)
      | subst hi
    all_goals
      refine wpOp_mk rfl rfl (fun K hK => ?_)
      go_simp
      refine hK _ _ ⟨regrown_mk (by repeat (first | exact Bel.refl _ | refine Bel.drew ?_ | refine Bel.new ?_ _ | (refine Bel.store ?_ (by simp) _))), ?_⟩
      clear hK K
    all_goals
      first
      | refine wpAnyH_all (rs := [10, 11]) (by decide +kernel) (by simp) ?_
      | refine wpAnyH_all (rs := [11, 12]) (by decide +kernel) (by simp) ?_
      | refine wpAnyH_all (rs := [10, 13]) (by decide +kernel) (by simp) ?_
      | refine wpAnyH_all (rs := [11]) (by decide +kernel) (by simp) ?_
      | refine wpAnyH_all (rs := [10]) (by decide +kernel) (by simp) ?_
      | refine wpAnyH_all (rs := [12, 13]) (by decide +kernel) (by simp) ?_
      | refine wpAnyH_all (rs := [12]) (by decide +kernel) (by simp) ?_
      | refine wpAnyH_all (rs := [13]) (by decide +kernel) (by simp) ?_
    all_goals
      intro i hi
      simp only [List.mem_cons, List.not_mem_nil, or_false] at hi
      first
      | (rcases hi with rfl | rfl)
      | subst hi
    all_goals
      refine wpOp_mk rfl rfl (fun K hK => ?_)
      go_simp
      refine hK _ _ ⟨regrown_mk (by repeat (first | exact Bel.refl _ | refine Bel.drew ?_ | refine Bel.new ?_ _ | (refine Bel.store ?_ (by simp) _))), ?_⟩
      clear hK K
    all_goals
      first
      | refine wpAnyH_all (rs := [10, 11]) (by decide +kernel) (by simp) ?_
      | refine wpAnyH_all (rs := [11, 12]) (by decide +kernel) (by simp) ?_
      | refine wpAnyH_all (rs := [10, 13]) (by decide +kernel) (by simp) ?_
      | refine wpAnyH_all (rs := [11]) (by decide +kernel) (by simp) ?_
      | refine wpAnyH_all (rs := [10]) (by decide +kernel) (by simp) ?_
      | refine wpAnyH_all (rs := [12, 13]) (by decide +kernel) (by simp) ?_
      | refine wpAnyH_all (rs := [12]) (by decide +kernel) (by simp) ?_
      | refine wpAnyH_all (rs := [13]) (by decide +kernel) (by simp) ?_
    all_goals
      intro i hi
      simp only [List.mem_cons, List.not_mem_nil, or_false] at hi
      first
      | (rcases hi with rfl | rfl)
      | subst hi
    all_goals
      refine wpOp_mk rfl rfl (fun K hK => ?_)
      go_simp
      refine hK _ _ ⟨regrown_mk (by repeat (first | exact Bel.refl _ | refine Bel.drew ?_ | refine Bel.new ?_ _ | (refine Bel.store ?_ (by simp) _))), ?_⟩
      clear hK K
    all_goals
      refine wpAnyH_done (by decide +kernel) ?_ _
      refine NoPanic.normal ?_
    · go_wp2_with fail
      go_meet
      refine ⟨W.heap.size , W.heap.size + 1, rfl, rfl, (by simp only [World.size_drew, World.size_alloc]; omega), (by simp only [World.size_drew, World.size_alloc]; omega), ?_, by simp, by simp, by simp, by simp⟩
      exact (((Bel.refl _).new _).new _).drew
    · go_wp2_with fail
      go_meet
      refine ⟨W.heap.size + 1, W.heap.size , rfl, rfl, (by simp only [World.size_drew, World.size_alloc]; omega), (by simp only [World.size_drew, World.size_alloc]; omega), ?_, by simp, by simp, by simp, by simp⟩
      exact (((Bel.refl _).new _).new _).drew
  case rest =>
    obtain ⟨g, h, rfl, rfl, hg, hh, hbc, g0, g1, h0, h1⟩ := hcut
    have HBC : Hid (Bel w wc) := Lib.hid (HBW0.out.then hbc)
    clear hbc c0 c1 c2 c3 sz HBW0
    have hk0 : 0 ≤ n % 20 := by omega
    have hk1 : n % 20 < 20 := by omega
    obtain ⟨k, hk⟩ : ∃ k : Nat, n % 20 = k := ⟨(n % 20).toNat, by omega⟩
    rw [hk] at hk1
    obtain ⟨V, hV⟩ : ∃ V, V = wc := ⟨_, rfl⟩
    subst hV
    go_upto_region 3 with fail
    obtain ⟨W7, hW7⟩ : ∃ W7, W7 = V.alloc (.cells #[.int .u64 0, .int .u64 0] 25) := ⟨_, rfl⟩
    rw [← hW7]
    have e0 : W7.cell? ⟨V.heap.size, 0, none⟩ = some (.int .u64 0) := by rw [hW7]; exact (cell_of (new_heap V _) 0).trans rfl
    have e1 : W7.cell? ⟨V.heap.size, 1, none⟩ = some (.int .u64 0) := by rw [hW7]; exact (cell_of (new_heap V _) 1).trans rfl
    have f0 : W7.frozen? ⟨V.heap.size, 0, none⟩ = false := by rw [hW7]; exact frozen_of (new_heap V _) 0
    have f1 : W7.frozen? ⟨V.heap.size, 1, none⟩ = false := by rw [hW7]; exact frozen_of (new_heap V _) 1
    have s7 : V.heap.size < W7.heap.size := by rw [hW7]; simp
    have b7 : Bel V W7 := by rw [hW7]; exact (Bel.refl _).new _
    clear hW7
    go_wp2_with fail
    rw [hk]
    go_loopw [25] (fun i wr => ∃ j : Nat, j ≤ k ∧ i = .int .i64 j ∧ Bel V wr ∧ V.heap.size < wr.heap.size ∧ wr.cell? ⟨V.heap.size, 0, none⟩ = some (.int .u64 (times j x0)) ∧ wr.cell? ⟨V.heap.size, 1, none⟩ = some (.int .u64 (times j x1)) ∧ wr.frozen? ⟨V.heap.size, 0, none⟩ = false ∧ wr.frozen? ⟨V.heap.size, 1, none⟩ = false) (fun i _ => k - (intOf i).toNat)
    case atStart => exact ⟨0, Nat.zero_le _, rfl, b7, s7, by rw [times_zero]; exact e0, by rw [times_zero]; exact e1, f0, f1⟩
    case round =>
      obtain ⟨j, hj, rfl, hbel, hsz, r0, r1, q0, q1⟩ := hrel
      have g0' := (Below.cell hbel (p := ⟨g, 0, none⟩) hg).trans g0
      have g1' := (Below.cell hbel (p := ⟨g, 1, none⟩) hg).trans g1
      have HBE := Lib.hid hbel
      by_cases hlt : j < k
      · have hA := Lib.hid (SizesW.add_any (times j x0) (times j x1) x0 x1 wr (times_U j u0.lo) (times_U j u1.lo) u0 u1)
        rw [times_succ j u0.lo, times_succ j u1.lo] at hA
        have hlt' : (j : Int) < (k : Int) := by omega
        go_wp2_with fail
        refine hA.out.mono ?_
        rintro e w2 ⟨rfl, hb2⟩
        have r0' := (Below.cell hb2 (p := ⟨V.heap.size, 0, none⟩) hsz).trans r0
        have r1' := (Below.cell hb2 (p := ⟨V.heap.size, 1, none⟩) hsz).trans r1
        have q0' := (Below.frozen hb2 (p := ⟨V.heap.size, 0, none⟩) hsz).trans q0
        have q1' := (Below.frozen hb2 (p := ⟨V.heap.size, 1, none⟩) hsz).trans q1
        have HB2 := Lib.hid (HBE.out.then hb2)
        have sz2 : V.heap.size < w2.heap.size := Nat.lt_of_lt_of_le hsz hb2.size
        clear hb2 r0 r1 q0 q1 hbel
        go_wp2_with fail
        go_roundw
        case rel => exact ⟨j + 1, by omega, by go_num, (HB2.out.store (p := ⟨V.heap.size, 0, none⟩) (Nat.le_refl _) _).store (p := ⟨V.heap.size, 1, none⟩) (Nat.le_refl _) _, by simpa [World.setCell] using sz2, two0 r0', two1 r1', by rw [World.frozen?_setCell, World.frozen?_setCell]; exact q0', by rw [World.frozen?_setCell, World.frozen?_setCell]; exact q1'⟩
        case measure => simp [intOf]; omega
      · obtain rfl : j = k := by omega
        have h0' := (Below.cell hbel (p := ⟨h, 0, none⟩) hh).trans h0
        have h1' := (Below.cell hbel (p := ⟨h, 1, none⟩) hh).trans h1
        have hg' : g < wr.heap.size := Nat.lt_of_lt_of_le hg hbel.size
        have hh' : h < wr.heap.size := Nat.lt_of_lt_of_le hh hbel.size
        clear hbel
        go_upto_region 8 with fail
        have HP := Lib.hid (fun w => point_any (j : Int) w)
        have uj : U (j : Int) := ⟨by omega, by unfold top; omega⟩
        have HT := Lib.hid (fun w => times_any (j : Int) (j : Int) x0 x1 w uj uj u0 u1)
        rw [times_mul j u0.lo, times_mul j u1.lo] at HT
        have hwr : IntKind.u64.wrap (j : Int) = (j : Int) := wrap_small ⟨j, by omega⟩
        have j0 : (0 : Int) ≤ (j : Int) := by omega
        have j1 : (j : Int) ≤ 18446744073709551615 := by omega
        go_cut [9] (fun s9 wx => ∃ m : Nat, s9 = .pointer (some ⟨m, 0, none⟩) ∧ m < wx.heap.size ∧ Bel wr wx ∧ wx.cell? ⟨m, 0, none⟩ = some (.int .u64 (times j x0)) ∧ wx.cell? ⟨m, 1, none⟩ = some (.int .u64 (times j x1)))
        case first =>
          have mixed : Tryz.prog.follows .mixedOrders = true := by kernel_rfl
          clear r0 r1 q0 q1 h0 h1 h0' h1' g0 g1 HBC HBE e0 e1 f0 f1 b7 s7
          go_region_with_o (first
            | (go_at_call 10; refine (HP.out _).mono ?_; clear HP; rintro e wp ⟨rfl, hbp⟩; have gp0 : wp.cell? ⟨g, 0, none⟩ = some (.int .u64 x0) := (hbp.cell (p := ⟨g, 0, none⟩) (by simp; omega)).trans (by first | exact g0' | exact (World.cell?_alloc_lt _ _ _ hg').trans g0'); have gp1 : wp.cell? ⟨g, 1, none⟩ = some (.int .u64 x1) := (hbp.cell (p := ⟨g, 1, none⟩) (by simp; omega)).trans (by first | exact g1' | exact (World.cell?_alloc_lt _ _ _ hg').trans g1'); have hgp : g < wp.heap.size := by { have := hbp.size; simp at this; omega }; obtain ⟨hcp, hfp⟩ := bcell hbp; have hzp := hbp.size; (try simp only [World.size_drew, World.size_alloc] at hzp); (try have hzs : wr.heap.size < wp.heap.size := Nat.lt_of_succ_le hzp); have hz2 := Nat.lt_succ_self wr.heap.size; have hg1 : g < wr.heap.size + 1 := Nat.lt_succ_of_lt hg'; have HBP := Lib.hid hbp; clear hbp)
            | (go_at_call 8; refine (HT.out _).mono ?_; clear HT; rintro e wt ⟨rfl, hbt⟩; obtain ⟨hct, hft⟩ := bcell hbt; have hzt := hbt.size; (try simp only [World.size_alloc] at hzt); (try have hzu : wp.heap.size < wt.heap.size := Nat.lt_of_succ_le hzt); (try have hzv : wr.heap.size < wt.heap.size := Nat.lt_of_lt_of_le hzs hzt); (try have hzw : wr.heap.size < wp.heap.size + 1 := Nat.lt_succ_of_lt hzs); have HBT := Lib.hid hbt; clear hbt))
          all_goals
            have hB : Bel wr wt := by
              first
              | exact (((Bel.refl wr).drew).then HBP.out).then HBT.out
              | exact ((((Bel.refl wr).drew).then HBP.out).new _).then HBT.out
              | exact ((((Bel.refl wr).drew).new _).then HBP.out).then HBT.out
              | exact ((((Bel.refl wr).new _).drew).then HBP.out).then HBT.out
            have hszt := hB.size
            have hszp := HBT.out.size
            try simp only [World.size_alloc] at hszp
            go_wp2_with fail
            go_meet
          all_goals
            refine ⟨_, rfl, ?_, ?_, ?_, ?_⟩
          all_goals
            first
            | (simp [World.setCell]; done)
            | (simp [World.setCell]; omega)
            | exact hB.new _
            | (refine Bel.store (Bel.store hB ?_ _) ?_ _ <;> first | exact Nat.le_refl _ | omega)
            | (refine two0 (u := .int .u64 0) ?_; simp [hct]; done)
            | (refine two1 (u := .int .u64 0) ?_; simp [hct]; done)
            | (refine two0 (u := .int .u64 0) ?_; simp [hct, hcp, hzs]; done)
            | (refine two1 (u := .int .u64 0) ?_; simp [hct, hcp, hzs]; done)
            | trace_state
        case rest =>
          obtain ⟨m, rfl, hm, hbc, m0, m1⟩ := hcut
          have kg0 := cell_grow ((Below.cell hbc (p := ⟨g, 0, none⟩) hg').trans g0')
          have kg1 := cell_grow ((Below.cell hbc (p := ⟨g, 1, none⟩) hg').trans g1')
          have kh0 := cell_grow ((Below.cell hbc (p := ⟨h, 0, none⟩) hh').trans h0')
          have kh1 := cell_grow ((Below.cell hbc (p := ⟨h, 1, none⟩) hh').trans h1')
          have kr0 := cell_grow ((Below.cell hbc (p := ⟨V.heap.size, 0, none⟩) hsz).trans r0)
          have kr1 := cell_grow ((Below.cell hbc (p := ⟨V.heap.size, 1, none⟩) hsz).trans r1)
          have km0 := cell_grow m0
          have km1 := cell_grow m1
          have HBD : Hid (Bel w wc) := Lib.hid (HBC.out.then (HBE.out.then hbc))
          clear hbc HBC HBE g0 g1 h0 h1 g0' g1' h0' h1' r0 r1 q0 q1 m0 m1 hm hg hh hg' hh' HP HT e0 e1 f0 f1 s7 b7
          go_upto_region 9 with fail
          have cW : ∀ d os, Calls Tryz.prog 5 #[] (grow (redrawn wc d) os) fun e w'' => e = .returned (.bool true) ∧ ∃ p : Regrown, w'' = grow (redrawn wc p.d) p.os := fun d os => Calls.regrown_of (Run.wakes_any _ (Run.holds_below (HBD.out.then (below_regrown wc d os)) HG.out))
          have cA : ∀ d os, Calls Tryz.prog 6 #[.agg #[.int .u64 x0, .int .u64 x1], .agg #[.int .u64 x2, .int .u64 x3]] (grow (redrawn wc d) os) fun e w'' => e = .returned (.agg #[.int .u64 (capd (add x0 x2)), .int .u64 (capd (add x1 x3))]) ∧ ∃ p : Regrown, w'' = grow (redrawn wc p.d) p.os := fun d os => Calls.regrown_of (SizesW.add_any x0 x1 x2 x3 _ u0 u1 u2 u3)
          have cB : ∀ d os, Calls Tryz.prog 6 #[.agg #[.int .u64 x2, .int .u64 x3], .agg #[.int .u64 x0, .int .u64 x1]] (grow (redrawn wc d) os) fun e w'' => e = .returned (.agg #[.int .u64 (capd (add x2 x0)), .int .u64 (capd (add x3 x1))]) ∧ ∃ p : Regrown, w'' = grow (redrawn wc p.d) p.os := fun d os => Calls.regrown_of (SizesW.add_any x2 x3 x0 x1 _ u2 u3 u0 u1)
          have cC : ∀ d os, Calls Tryz.prog 8 #[.agg #[.int .u64 x0, .int .u64 x1], .agg #[.int .u64 x2, .int .u64 x3]] (grow (redrawn wc d) os) fun e w'' => e = .returned (.agg #[.int .u64 (capd (mul x0 x2)), .int .u64 (capd (mul x1 x3))]) ∧ ∃ p : Regrown, w'' = grow (redrawn wc p.d) p.os := fun d os => Calls.regrown_of (times_any x0 x1 x2 x3 _ u0 u1 u2 u3)
          have cD : ∀ d os, Calls Tryz.prog 8 #[.agg #[.int .u64 x2, .int .u64 x3], .agg #[.int .u64 x0, .int .u64 x1]] (grow (redrawn wc d) os) fun e w'' => e = .returned (.agg #[.int .u64 (capd (mul x2 x0)), .int .u64 (capd (mul x3 x1))]) ∧ ∃ p : Regrown, w'' = grow (redrawn wc p.d) p.os := fun d os => Calls.regrown_of (times_any x2 x3 x0 x1 _ u2 u3 u0 u1)
          clear u0 u1 u2 u3
          rw [add_comm' x2 x0, add_comm' x3 x1] at cB
          rw [mul_comm' x2 x0, mul_comm' x3 x1] at cD
          generalize capd (add x0 x2) = s0 at *
          generalize capd (add x1 x3) = s1 at *
          generalize capd (mul x0 x2) = s2 at *
          generalize capd (mul x1 x3) = s3 at *
          generalize times j x0 = s4 at *
          generalize times j x1 = s5 at *
          refine wp_region_quiet_below (by kernel_rfl) (by kernel_rfl) ?_
          repeat (quiet_step (first | with_reducible exact cW _ _ | with_reducible exact cA _ _ | with_reducible exact cB _ _ | with_reducible exact cC _ _ | with_reducible exact cD _ _))
          refine wpQuiet_nil ?_
          intro _ hw'
          obtain ⟨⟨dq, osq⟩, hw''⟩ := hw'
          subst hw''
          go_wp2_with fail
          go_ret
          exact ⟨rfl, HBD.out.then (below_regrown wc dq osq)⟩
end Go.Proofs.YtmaphdhdfbgflaaGreatDoor.SizesO
