/- The walk of the law BoundsOps. -/
import Derived.Test.YthlplfcoaomhpaaBounds3W
import Derived.Test.YthlplfcoaomhpaaRef11W
set_option linter.unusedVariables false
namespace Go.Proofs.Ythlplfcoaomhpaa.Bounds4W
open Go.RowKit Go.Sort Go.Proofs.Ythlplfcoaomhpaa.Word Go.Proofs.Ythlplfcoaomhpaa.WordW Go.Proofs.Ythlplfcoaomhpaa.BoundsN Go.Proofs.Ythlplfcoaomhpaa.BoundsW Go.Proofs.Ythlplfcoaomhpaa.Mem Go.Proofs.Ythlplfcoaomhpaa.Bounds2W Go.Proofs.Ythlplfcoaomhpaa.RegHead Go.Proofs.Ythlplfcoaomhpaa.Bounds3W

theorem arr_cells (x0 x1 x2 x3 : Value) (t : TypeId) (w W : World) (h : W = w.alloc (.cells #[x0, x1, x2, x3] t)) :
    W.cell? ⟨w.heap.size, 0, none⟩ = some x0 ∧ W.cell? ⟨w.heap.size, 1, none⟩ = some x1 ∧ W.cell? ⟨w.heap.size, 2, none⟩ = some x2 ∧ W.cell? ⟨w.heap.size, 3, none⟩ = some x3 ∧ w.heap.size < W.heap.size ∧ Bel w W := by
  subst h
  exact ⟨World.cell?_alloc_at _ _ _ _ rfl, World.cell?_alloc_at _ _ _ _ rfl, World.cell?_alloc_at _ _ _ _ rfl, World.cell?_alloc_at _ _ _ _ rfl, by simp, (Bel.refl _).new _⟩

set_option maxRecDepth 100000 in
set_option maxHeartbeats 4000000 in
theorem boundsOps_any (s : ByteArray) (x0 x1 x2 x3 n : Int) (w : World) (hs : s.size ≤ maxLen) (u0 : U x0) (u1 : U x1) (u2 : U x2) (u3 : U x3) (un : U n) :
    Calls Try.prog 3 #[.string s, .agg #[.int .u64 x0, .int .u64 x1, .int .u64 x2, .int .u64 x3], .int .u64 n] w (Yes w) := by
  unfold maxLen at hs
  go_enter Try.func3, Try.ntmps3
  go_upto_region 2 with fail
  generalize s.extract 0 (min (s.size : Int) 4).toNat = z
  obtain ⟨W, hW⟩ : ∃ W, W = w.alloc (.cells #[.int .u64 x0, .int .u64 x1, .int .u64 x2, .int .u64 x3] 23) := ⟨_, rfl⟩
  obtain ⟨c0, c1, c2, c3, sz, hbW⟩ := arr_cells _ _ _ _ _ _ _ hW
  rw [← hW]
  have HBW0 := Lib.hid hbW
  clear hbW hW
  have ua : UR ⟨x0, x1⟩ := ⟨u0, u1⟩
  have ub : UR ⟨x2, x3⟩ := ⟨u2, u3⟩
  go_cut [7, 8] (fun s7 s8 wx => ∃ g h : Nat, s7 = .pointer (some ⟨g, 0, none⟩) ∧ s8 = .pointer (some ⟨h, 0, none⟩) ∧ g < wx.heap.size ∧ h < wx.heap.size ∧ Bel W wx ∧ wx.cell? ⟨g, 0, none⟩ = some (.int .u64 x0) ∧ wx.cell? ⟨g, 1, none⟩ = some (.int .u64 x1) ∧ wx.cell? ⟨h, 0, none⟩ = some (.int .u64 x2) ∧ wx.cell? ⟨h, 1, none⟩ = some (.int .u64 x3))
  case first =>
    have HBW : Hid (Bel W W) := Lib.hid (Bel.refl _)
    have k0 := cell_grow c0
    have k1 := cell_grow c1
    have k2 := cell_grow c2
    have k3 := cell_grow c3
    refine region_head 10 (by kernel_rfl) (by kernel_rfl) ?_
    simp only [List.take_succ_cons, List.take_zero]
    repeat (refine wpIf_step (fun K hK => ?_); go_simp; refine hK _ ?_; clear hK K)
    refine wpIf_nil ?_
    simp only [listN, List.length_cons, List.length_nil, Nat.reduceAdd, Nat.reduceSub, Array.replicate_succ, Array.replicate_zero, List.push_toArray, List.setIfInBounds_toArray, List.set_cons_zero, List.set_cons_succ, List.cons_append, List.nil_append]
    all_goals
      first
      | refine wpAnyH_all (rs := [10, 11]) (by decide +kernel) (by simp) ?_
      | refine wpAnyH_all (rs := [11, 12]) (by decide +kernel) (by simp) ?_
      | refine wpAnyH_all (rs := [10, 13]) (by decide +kernel) (by simp) ?_
      | refine wpAnyH_all (rs := [11]) (by decide +kernel) (by simp) ?_
      | refine wpAnyH_all (rs := [10]) (by decide +kernel) (by simp) ?_
      | refine wpAnyH_all (rs := [12, 13]) (by decide +kernel) (by simp) ?_
      | refine wpAnyH_all (rs := [12]) (by decide +kernel) (by simp) ?_
      | refine wpAnyH_all (rs := [13]) (by decide +kernel) (by simp) ?_
    all_goals
      intro i hi
      simp only [List.mem_cons, List.not_mem_nil, or_false] at hi
      first
      | (rcases hi with rfl | rfl)
      | subst hi
    all_goals
      refine wpOp_mk rfl rfl (fun K hK => ?_)
      go_simp
      refine hK _ _ ⟨regrown_mk (by repeat (first | exact Bel.refl _ | refine Bel.drew ?_ | refine Bel.new ?_ _ | (refine Bel.store ?_ (by simp) _))), ?_⟩
      clear hK K
    all_goals
      first
      | refine wpAnyH_all (rs := [10, 11]) (by decide +kernel) (by simp) ?_
      | refine wpAnyH_all (rs := [11, 12]) (by decide +kernel) (by simp) ?_
      | refine wpAnyH_all (rs := [10, 13]) (by decide +kernel) (by simp) ?_
      | refine wpAnyH_all (rs := [11]) (by decide +kernel) (by simp) ?_
      | refine wpAnyH_all (rs := [10]) (by decide +kernel) (by simp) ?_
      | refine wpAnyH_all (rs := [12, 13]) (by decide +kernel) (by simp) ?_
      | refine wpAnyH_all (rs := [12]) (by decide +kernel) (by simp) ?_
      | refine wpAnyH_all (rs := [13]) (by decide +kernel) (by simp) ?_
    all_goals
      intro i hi
      simp only [List.mem_cons, List.not_mem_nil, or_false] at hi
      first
      | (rcases hi with rfl | rfl)
      | subst hi
    all_goals
      refine wpOp_mk rfl rfl (fun K hK => ?_)
      go_simp
      refine hK _ _ ⟨regrown_mk (by repeat (first | exact Bel.refl _ | refine Bel.drew ?_ | refine Bel.new ?_ _ | (refine Bel.store ?_ (by simp) _))), ?_⟩
      clear hK K
    all_goals
      first
      | refine wpAnyH_all (rs := [10, 11]) (by decide +kernel) (by simp) ?_
      | refine wpAnyH_all (rs := [11, 12]) (by decide +kernel) (by simp) ?_
      | refine wpAnyH_all (rs := [10, 13]) (by decide +kernel) (by simp) ?_
      | refine wpAnyH_all (rs := [11]) (by decide +kernel) (by simp) ?_
      | refine wpAnyH_all (rs := [10]) (by decide +kernel) (by simp) ?_
      | refine wpAnyH_all (rs := [12, 13]) (by decide +kernel) (by simp) ?_
      | refine wpAnyH_all (rs := [12]) (by decide +kernel) (by simp) ?_
      | refine wpAnyH_all (rs := [13]) (by decide +kernel) (by simp) ?_
    all_goals
      intro i hi
      simp only [List.mem_cons, List.not_mem_nil, or_false] at hi
      first
      | (rcases hi with rfl | rfl)
      | subst hi
    all_goals
      refine wpOp_mk rfl rfl (fun K hK => ?_)
      go_simp
      refine hK _ _ ⟨regrown_mk (by repeat (first | exact Bel.refl _ | refine Bel.drew ?_ | refine Bel.new ?_ _ | (refine Bel.store ?_ (by simp) _))), ?_⟩
      clear hK K
    all_goals
      first
      | refine wpAnyH_all (rs := [10, 11]) (by decide +kernel) (by simp) ?_
      | refine wpAnyH_all (rs := [11, 12]) (by decide +kernel) (by simp) ?_
      | refine wpAnyH_all (rs := [10, 13]) (by decide +kernel) (by simp) ?_
      | refine wpAnyH_all (rs := [11]) (by decide +kernel) (by simp) ?_
      | refine wpAnyH_all (rs := [10]) (by decide +kernel) (by simp) ?_
      | refine wpAnyH_all (rs := [12, 13]) (by decide +kernel) (by simp) ?_
      | refine wpAnyH_all (rs := [12]) (by decide +kernel) (by simp) ?_
      | refine wpAnyH_all (rs := [13]) (by decide +kernel) (by simp) ?_
    all_goals
      intro i hi
      simp only [List.mem_cons, List.not_mem_nil, or_false] at hi
      first
      | (rcases hi with rfl | rfl)
      | subst hi
    all_goals
      refine wpOp_mk rfl rfl (fun K hK => ?_)
      go_simp
      refine hK _ _ ⟨regrown_mk (by repeat (first | exact Bel.refl _ | refine Bel.drew ?_ | refine Bel.new ?_ _ | (refine Bel.store ?_ (by simp) _))), ?_⟩
      clear hK K
    all_goals
      refine wpAnyH_done (by decide +kernel) ?_ _
      refine NoPanic.normal ?_
    · go_wp2_with fail
      go_meet
      refine ⟨W.heap.size, W.heap.size + 1, rfl, rfl, (by simp only [World.size_drew, World.size_alloc]; omega), (by simp only [World.size_drew, World.size_alloc]; omega), ?_, by simp, by simp, by simp, by simp⟩
      exact (((Bel.refl _).new _).new _).drew
    · go_wp2_with fail
      go_meet
      refine ⟨W.heap.size + 1, W.heap.size, rfl, rfl, (by simp only [World.size_drew, World.size_alloc]; omega), (by simp only [World.size_drew, World.size_alloc]; omega), ?_, by simp, by simp, by simp, by simp⟩
      exact (((Bel.refl _).new _).new _).drew
  case rest =>
    obtain ⟨g, h, rfl, rfl, hg, hh, hbc, g0, g1, h0, h1⟩ := hcut
    have c0' := (Below.cell hbc (p := ⟨w.heap.size, 0, none⟩) sz).trans c0
    have c1' := (Below.cell hbc (p := ⟨w.heap.size, 1, none⟩) sz).trans c1
    have c2' := (Below.cell hbc (p := ⟨w.heap.size, 2, none⟩) sz).trans c2
    have c3' := (Below.cell hbc (p := ⟨w.heap.size, 3, none⟩) sz).trans c3
    have sz' : w.heap.size < wc.heap.size := Nat.lt_of_lt_of_le sz hbc.size
    have HBC : Hid (Bel w wc) := Lib.hid (HBW0.out.then hbc)
    clear hbc c0 c1 c2 c3 sz HBW0
    obtain ⟨V, hV⟩ : ∃ V, V = wc := ⟨_, rfl⟩
    subst hV
    go_upto_region 3 with fail
    go_cut [9, 10] (fun s7 s8 wx => ∃ g h : Nat, s7 = .pointer (some ⟨g, 0, none⟩) ∧ s8 = .pointer (some ⟨h, 0, none⟩) ∧ g < wx.heap.size ∧ h < wx.heap.size ∧ Bel V wx ∧ wx.cell? ⟨g, 0, none⟩ = some (.int .u64 x0) ∧ wx.cell? ⟨g, 1, none⟩ = some (.int .u64 x1) ∧ wx.cell? ⟨h, 0, none⟩ = some (.int .u64 x2) ∧ wx.cell? ⟨h, 1, none⟩ = some (.int .u64 x3))
    case first =>
      have k0 := cell_grow c0'
      have k1 := cell_grow c1'
      have k2 := cell_grow c2'
      have k3 := cell_grow c3'
      refine region_head 10 (by kernel_rfl) (by kernel_rfl) ?_
      simp only [List.take_succ_cons, List.take_zero]
      repeat (refine wpIf_step (fun K hK => ?_); go_simp; refine hK _ ?_; clear hK K)
      refine wpIf_nil ?_
      simp only [listN, List.length_cons, List.length_nil, Nat.reduceAdd, Nat.reduceSub, Array.replicate_succ, Array.replicate_zero, List.push_toArray, List.setIfInBounds_toArray, List.set_cons_zero, List.set_cons_succ, List.cons_append, List.nil_append]
      all_goals
        first
        | refine wpAnyH_all (rs := [10, 11]) (by decide +kernel) (by simp) ?_
        | refine wpAnyH_all (rs := [11, 12]) (by decide +kernel) (by simp) ?_
        | refine wpAnyH_all (rs := [10, 13]) (by decide +kernel) (by simp) ?_
        | refine wpAnyH_all (rs := [11]) (by decide +kernel) (by simp) ?_
        | refine wpAnyH_all (rs := [10]) (by decide +kernel) (by simp) ?_
        | refine wpAnyH_all (rs := [12, 13]) (by decide +kernel) (by simp) ?_
        | refine wpAnyH_all (rs := [12]) (by decide +kernel) (by simp) ?_
        | refine wpAnyH_all (rs := [13]) (by decide +kernel) (by simp) ?_
      all_goals
        intro i hi
        simp only [List.mem_cons, List.not_mem_nil, or_false] at hi
        first
        | (rcases hi with rfl | rfl)
        | subst hi
      all_goals
        refine wpOp_mk rfl rfl (fun K hK => ?_)
        go_simp
        refine hK _ _ ⟨regrown_mk (by repeat (first | exact Bel.refl _ | refine Bel.drew ?_ | refine Bel.new ?_ _ | (refine Bel.store ?_ (by simp) _))), ?_⟩
        clear hK K
      all_goals
        first
        | refine wpAnyH_all (rs := [10, 11]) (by decide +kernel) (by simp) ?_
        | refine wpAnyH_all (rs := [11, 12]) (by decide +kernel) (by simp) ?_
        | refine wpAnyH_all (rs := [10, 13]) (by decide +kernel) (by simp) ?_
        | refine wpAnyH_all (rs := [11]) (by decide +kernel) (by simp) ?_
        | refine wpAnyH_all (rs := [10]) (by decide +kernel) (by simp) ?_
        | refine wpAnyH_all (rs := [12, 13]) (by decide +kernel) (by simp) ?_
        | refine wpAnyH_all (rs := [12]) (by decide +kernel) (by simp) ?_
        | refine wpAnyH_all (rs := [13]) (by decide +kernel) (by simp) ?_
      all_goals
        intro i hi
        simp only [List.mem_cons, List.not_mem_nil, or_false] at hi
        first
        | (rcases hi with rfl | rfl)
        | subst hi
      all_goals
        refine wpOp_mk rfl rfl (fun K hK => ?_)
        go_simp
        refine hK _ _ ⟨regrown_mk (by repeat (first | exact Bel.refl _ | refine Bel.drew ?_ | refine Bel.new ?_ _ | (refine Bel.store ?_ (by simp) _))), ?_⟩
        clear hK K
      all_goals
        first
        | refine wpAnyH_all (rs := [10, 11]) (by decide +kernel) (by simp) ?_
        | refine wpAnyH_all (rs := [11, 12]) (by decide +kernel) (by simp) ?_
        | refine wpAnyH_all (rs := [10, 13]) (by decide +kernel) (by simp) ?_
        | refine wpAnyH_all (rs := [11]) (by decide +kernel) (by simp) ?_
        | refine wpAnyH_all (rs := [10]) (by decide +kernel) (by simp) ?_
        | refine wpAnyH_all (rs := [12, 13]) (by decide +kernel) (by simp) ?_
        | refine wpAnyH_all (rs := [12]) (by decide +kernel) (by simp) ?_
        | refine wpAnyH_all (rs := [13]) (by decide +kernel) (by simp) ?_
      all_goals
        intro i hi
        simp only [List.mem_cons, List.not_mem_nil, or_false] at hi
        first
        | (rcases hi with rfl | rfl)
        | subst hi
      all_goals
        refine wpOp_mk rfl rfl (fun K hK => ?_)
        go_simp
        refine hK _ _ ⟨regrown_mk (by repeat (first | exact Bel.refl _ | refine Bel.drew ?_ | refine Bel.new ?_ _ | (refine Bel.store ?_ (by simp) _))), ?_⟩
        clear hK K
      all_goals
        first
        | refine wpAnyH_all (rs := [10, 11]) (by decide +kernel) (by simp) ?_
        | refine wpAnyH_all (rs := [11, 12]) (by decide +kernel) (by simp) ?_
        | refine wpAnyH_all (rs := [10, 13]) (by decide +kernel) (by simp) ?_
        | refine wpAnyH_all (rs := [11]) (by decide +kernel) (by simp) ?_
        | refine wpAnyH_all (rs := [10]) (by decide +kernel) (by simp) ?_
        | refine wpAnyH_all (rs := [12, 13]) (by decide +kernel) (by simp) ?_
        | refine wpAnyH_all (rs := [12]) (by decide +kernel) (by simp) ?_
        | refine wpAnyH_all (rs := [13]) (by decide +kernel) (by simp) ?_
      all_goals
        intro i hi
        simp only [List.mem_cons, List.not_mem_nil, or_false] at hi
        first
        | (rcases hi with rfl | rfl)
        | subst hi
      all_goals
        refine wpOp_mk rfl rfl (fun K hK => ?_)
        go_simp
        refine hK _ _ ⟨regrown_mk (by repeat (first | exact Bel.refl _ | refine Bel.drew ?_ | refine Bel.new ?_ _ | (refine Bel.store ?_ (by simp) _))), ?_⟩
        clear hK K
      all_goals
        refine wpAnyH_done (by decide +kernel) ?_ _
        refine NoPanic.normal ?_
      · go_wp2_with fail
        go_meet
        refine ⟨V.heap.size, V.heap.size + 1, rfl, rfl, (by simp only [World.size_drew, World.size_alloc]; omega), (by simp only [World.size_drew, World.size_alloc]; omega), ?_, by simp, by simp, by simp, by simp⟩
        exact (((Bel.refl _).new _).new _).drew
      · go_wp2_with fail
        go_meet
        refine ⟨V.heap.size + 1, V.heap.size, rfl, rfl, (by simp only [World.size_drew, World.size_alloc]; omega), (by simp only [World.size_drew, World.size_alloc]; omega), ?_, by simp, by simp, by simp, by simp⟩
        exact (((Bel.refl _).new _).new _).drew

    case rest =>
      obtain ⟨p, q, rfl, rfl, hp, hq, hbc, p0, p1, q0, q1⟩ := hcut
      have d0 := (Below.cell hbc (p := ⟨w.heap.size, 0, none⟩) sz').trans c0'
      have d1 := (Below.cell hbc (p := ⟨w.heap.size, 1, none⟩) sz').trans c1'
      have sw : w.heap.size < wc.heap.size := Nat.lt_of_lt_of_le sz' hbc.size
      have g0' := (Below.cell hbc (p := ⟨g, 0, none⟩) hg).trans g0
      have g1' := (Below.cell hbc (p := ⟨g, 1, none⟩) hg).trans g1
      have h0' := (Below.cell hbc (p := ⟨h, 0, none⟩) hh).trans h0
      have h1' := (Below.cell hbc (p := ⟨h, 1, none⟩) hh).trans h1
      have hg' : g < wc.heap.size := Nat.lt_of_lt_of_le hg hbc.size
      have hh' : h < wc.heap.size := Nat.lt_of_lt_of_le hh hbc.size
      have HBD : Hid (Bel w wc) := Lib.hid (HBC.out.then hbc)
      clear hbc c0' c1' c2' c3' sz' HBC g0 g1 h0 h1 hg hh
      have g0 := g0'
      have g1 := g1'
      have h0 := h0'
      have h1 := h1'
      have hg := hg'
      have hh := hh'
      have hw := sw
      clear g0' g1' h0' h1' hg' hh' sw
      have HB := Lib.hid (fun s w => bop_any s ⟨x0, x1⟩ ⟨x2, x3⟩ w ua ub)
      have HR := Lib.hid (fun s w => Ref11W.op_any s ⟨x0, x1⟩ ⟨x2, x3⟩ w ua ub)
      have un0 := un.lo; have un1 := un.hi
      clear ua ub u0 u1 u2 u3 un hs
      go_wp2_with fail
      refine (ops_any _ _).mono ?_
      rintro e w1 ⟨rfl, hb1, hs1, hc1⟩
      have HC1 := Lib.hid hc1
      have g0' := (Below.cell hb1 (p := ⟨g, 0, none⟩) hg).trans g0
      have g1' := (Below.cell hb1 (p := ⟨g, 1, none⟩) hg).trans g1
      have h0' := (Below.cell hb1 (p := ⟨h, 0, none⟩) hh).trans h0
      have h1' := (Below.cell hb1 (p := ⟨h, 1, none⟩) hh).trans h1
      have p0' := (Below.cell hb1 (p := ⟨p, 0, none⟩) hp).trans p0
      have p1' := (Below.cell hb1 (p := ⟨p, 1, none⟩) hp).trans p1
      have q0' := (Below.cell hb1 (p := ⟨q, 0, none⟩) hq).trans q0
      have q1' := (Below.cell hb1 (p := ⟨q, 1, none⟩) hq).trans q1
      have d0' := (Below.cell hb1 (p := ⟨w.heap.size, 0, none⟩) hw).trans d0
      have d1' := (Below.cell hb1 (p := ⟨w.heap.size, 1, none⟩) hw).trans d1
      have hg' : g < w1.heap.size := Nat.lt_of_lt_of_le hg hb1.size
      have hh' : h < w1.heap.size := Nat.lt_of_lt_of_le hh hb1.size
      have hp' : p < w1.heap.size := Nat.lt_of_lt_of_le hp hb1.size
      have hq' : q < w1.heap.size := Nat.lt_of_lt_of_le hq hb1.size
      have hw' : w.heap.size < w1.heap.size := Nat.lt_of_lt_of_le hw hb1.size
      have HB1 : Hid (Bel w w1) := Lib.hid (HBD.out.then hb1)
      clear hc1 hb1 HBD g0 g1 h0 h1 p0 p1 q0 q1 d0 d1 hg hh hp hq hw
      go_wp2_with fail
      go_loopw [46] (fun i wr => ∃ k : Nat, k ≤ 18 ∧ i = .int .i64 k ∧ Bel w1 wr) (fun i _ => 18 - (intOf i).toNat)
      case atStart => exact ⟨0, by omega, rfl, Bel.refl _⟩
      case round =>
        obtain ⟨k, hk, rfl, hbel⟩ := hrel
        have g0 := (Below.cell hbel (p := ⟨g, 0, none⟩) hg').trans g0'
        have g1 := (Below.cell hbel (p := ⟨g, 1, none⟩) hg').trans g1'
        have h0 := (Below.cell hbel (p := ⟨h, 0, none⟩) hh').trans h0'
        have h1 := (Below.cell hbel (p := ⟨h, 1, none⟩) hh').trans h1'
        have p0 := (Below.cell hbel (p := ⟨p, 0, none⟩) hp').trans p0'
        have p1 := (Below.cell hbel (p := ⟨p, 1, none⟩) hp').trans p1'
        have q0 := (Below.cell hbel (p := ⟨q, 0, none⟩) hq').trans q0'
        have q1 := (Below.cell hbel (p := ⟨q, 1, none⟩) hq').trans q1'
        have d0 := (Below.cell hbel (p := ⟨w.heap.size, 0, none⟩) hw').trans d0'
        have d1 := (Below.cell hbel (p := ⟨w.heap.size, 1, none⟩) hw').trans d1'
        have hg : g < wr.heap.size := Nat.lt_of_lt_of_le hg' hbel.size
        have hh : h < wr.heap.size := Nat.lt_of_lt_of_le hh' hbel.size
        have hp : p < wr.heap.size := Nat.lt_of_lt_of_le hp' hbel.size
        have hq : q < wr.heap.size := Nat.lt_of_lt_of_le hq' hbel.size
        have hw : w.heap.size < wr.heap.size := Nat.lt_of_lt_of_le hw' hbel.size
        have HBE := Lib.hid hbel
        by_cases hlt : k < 18
        · have hck := (Below.cell hbel (p := ⟨wc.heap.size, k, none⟩) (by simpa using hs1)).trans (by simpa using HC1.out k hlt)
          generalize (opsL z)[k]?.getD ByteArray.empty = s at hck
          clear hbel g0' g1' h0' h1' p0' p1' q0' q1' d0' d1' hg' hh' hp' hq' hw'
          obtain ⟨r, hr⟩ : ∃ r, bop s.toList ⟨x0, x1⟩ ⟨x2, x3⟩ = r := ⟨_, rfl⟩
          have cB := HB.out s
          have cR := HR.out s
          rw [hr] at cB cR
          have CB := Lib.hid cB
          have CR := Lib.hid cR
          clear cB cR hr HB HR
          obtain ⟨⟨rl, rh⟩, ok⟩ := r
          go_wp2_with fail
          refine (CB.out _).mono ?_
          rintro e w5 ⟨rfl, hb5⟩
          have p5 : ∀ x, (w5.alloc x).cell? ⟨p, 0, none⟩ = some (.int .u64 x0) := fun x => (Below.cell (Bel.new hb5 x) (p := ⟨p, 0, none⟩) hp).trans p0
          have p6 : ∀ x, (w5.alloc x).cell? ⟨p, 1, none⟩ = some (.int .u64 x1) := fun x => (Below.cell (Bel.new hb5 x) (p := ⟨p, 1, none⟩) hp).trans p1
          have q5 : ∀ x, (w5.alloc x).cell? ⟨q, 0, none⟩ = some (.int .u64 x2) := fun x => (Below.cell (Bel.new hb5 x) (p := ⟨q, 0, none⟩) hq).trans q0
          have q6 : ∀ x, (w5.alloc x).cell? ⟨q, 1, none⟩ = some (.int .u64 x3) := fun x => (Below.cell (Bel.new hb5 x) (p := ⟨q, 1, none⟩) hq).trans q1
          have H5 := Lib.hid hb5
          clear hb5
          go_wp2_with fail
          refine (CR.out _).mono ?_
          rintro e w6 ⟨rfl, hb6⟩
          have r5 : ∀ x, (w6.alloc x).cell? ⟨w5.heap.size, 0, none⟩ = some (.int .u64 rl) := fun x => (Below.cell (Bel.new hb6 x) (p := ⟨w5.heap.size, 0, none⟩) (by simp)).trans (World.cell?_alloc_at _ _ _ _ rfl)
          have r6 : ∀ x, (w6.alloc x).cell? ⟨w5.heap.size, 1, none⟩ = some (.int .u64 rh) := fun x => (Below.cell (Bel.new hb6 x) (p := ⟨w5.heap.size, 1, none⟩) (by simp)).trans (World.cell?_alloc_at _ _ _ _ rfl)
          have H6 := Lib.hid hb6
          clear hb6
          cases ok
          all_goals
            go_wp2_with fail
            go_roundw
            case rel => exact ⟨k + 1, by omega, by go_num, HBE.out.then (Bel.then (H5.out.new _) (H6.out.new _))⟩
            case measure => simp [intOf]; omega
        · have e18 : k = 18 := by omega
          subst e18
          clear hbel HB HR HC1 g0' g1' h0' h1' p0' p1' q0' q1' d0' d1' hg' hh' hp' hq' hw'
          go_wp2_with fail
          have kg0 := cell_grow g0
          have kg1 := cell_grow g1
          have kh0 := cell_grow h0
          have kh1 := cell_grow h1
          have kp0 := cell_grow p0
          have kp1 := cell_grow p1
          have kq0 := cell_grow q0
          have kq1 := cell_grow q1
          have kd0 := cell_grow d0
          have kd1 := cell_grow d1
          clear g0 g1 h0 h1 p0 p1 q0 q1 d0 d1
          have cW : ∀ d os, Calls Try.prog 11 #[] (grow (redrawn wr d) os) fun e w'' => e = .returned (.bool true) ∧ ∃ p : Regrown, w'' = grow (redrawn wr p.d) p.os := fun d os => Calls.regrown_of (wakes_any _)
          have cJ : ∀ d os, Calls Try.prog 12 #[.agg #[.int .u64 x0, .int .u64 x1], .agg #[.int .u64 x2, .int .u64 x3]] (grow (redrawn wr d) os) fun e w'' => e = .returned (.agg #[.int .u64 (min x0 x2), .int .u64 (max x1 x3)]) ∧ ∃ p : Regrown, w'' = grow (redrawn wr p.d) p.os := fun d os => Calls.regrown_of (join_any ⟨x0, x1⟩ ⟨x2, x3⟩ _)
          have cK : ∀ d os, Calls Try.prog 13 #[.agg #[.int .u64 x0, .int .u64 x1], .agg #[.int .u64 x2, .int .u64 x3]] (grow (redrawn wr d) os) fun e w'' => e = .returned (.agg #[.int .u64 (min x0 x2), .int .u64 (max x1 x3)]) ∧ ∃ p : Regrown, w'' = grow (redrawn wr p.d) p.os := fun d os => Calls.regrown_of (Ref11W.join_any ⟨x0, x1⟩ ⟨x2, x3⟩ _)
          have cH : ∀ d os, Calls Try.prog 14 #[.agg #[.int .u64 x0, .int .u64 x1], .int .u64 n] (grow (redrawn wr d) os) fun e w'' => e = .returned (.bool (has ⟨x0, x1⟩ n)) ∧ ∃ p : Regrown, w'' = grow (redrawn wr p.d) p.os := fun d os => Calls.regrown_of (has_any ⟨x0, x1⟩ n _)
          have cP : ∀ d os, Calls Try.prog 15 #[.int .u64 n] (grow (redrawn wr d) os) fun e w'' => e = .returned (.agg #[.int .u64 n, .int .u64 n]) ∧ ∃ p : Regrown, w'' = grow (redrawn wr p.d) p.os := fun d os => Calls.regrown_of (point_of n _)
          have cA : ∀ d os, Calls Try.prog 16 #[.int .i64 (n % 70)] (grow (redrawn wr d) os) fun e w'' => e = .returned (.agg #[.int .u64 0, .int .u64 (mask (n % 70))]) ∧ ∃ p : Regrown, w'' = grow (redrawn wr p.d) p.os := fun d os => Calls.regrown_of (all_any (n % 70) _)
          have cM : ∀ d os, Calls Try.prog 17 #[.int .i64 (n % 70)] (grow (redrawn wr d) os) fun e w'' => e = .returned (.int .u64 (mask (n % 70))) ∧ ∃ p : Regrown, w'' = grow (redrawn wr p.d) p.os := fun d os => (Ref1W.mask_any (n % 70) _).mono fun e w' h => ⟨h.1, ⟨d, os⟩, h.2.symm⟩
          have hcase : (decide (x0 ≤ n) = true ∧ decide (n ≤ x1) = true ∧ has ⟨x0, x1⟩ n = true) ∨ (decide (x0 ≤ n) = true ∧ decide (n ≤ x1) = false ∧ has ⟨x0, x1⟩ n = false) ∨ (decide (x0 ≤ n) = false ∧ has ⟨x0, x1⟩ n = false) := by
            unfold has
            cases hx : decide (x0 ≤ n) <;> cases hy : decide (n ≤ x1) <;> simp
          rcases hcase with ⟨t1, t2, t3⟩ | ⟨t1, t2, t3⟩ | ⟨t1, t3⟩
          all_goals
            rw [t3] at cH
            clear t3
            refine wp_region_quiet_below (by kernel_rfl) (by kernel_rfl) ?_
            repeat (quiet_step (first | exact cW _ _ | exact cJ _ _ | exact cK _ _ | exact cH _ _ | exact cP _ _ | exact cA _ _ | exact cM _ _))
            refine wpQuiet_nil ?_
            intro _ hw'
            obtain ⟨⟨dq, osq⟩, hw''⟩ := hw'
            subst hw''
            go_wp2_with fail
            go_ret
            exact ⟨rfl, HB1.out.then (HBE.out.then (below_regrown wr dq osq))⟩
end Go.Proofs.Ythlplfcoaomhpaa.Bounds4W
