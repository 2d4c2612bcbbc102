/- The walks of the laws SizesSums and SizesOrder (printed by a program). -/
import Derived.Test.YtmaphdhdfbgflaaGreatDoorSizesW
import Derived.Test.YtmaphdhdfbgflaaGreatDoorRegHead
import Derived.Test.YtmaphdhdfbgflaaGreatDoorWakes
set_option linter.unusedVariables false
namespace Go.Proofs.YtmaphdhdfbgflaaGreatDoor.SizesL
open Go.RowKit Go.Sort Go.Proofs.YtmaphdhdfbgflaaGreatDoor.Word Go.Proofs.YtmaphdhdfbgflaaGreatDoor.WordW Go.Proofs.YtmaphdhdfbgflaaGreatDoor.MulW Go.Proofs.YtmaphdhdfbgflaaGreatDoor.Mem Go.Proofs.YtmaphdhdfbgflaaGreatDoor.RegHead Go.Proofs.YtmaphdhdfbgflaaGreatDoor.SizesW Go.Abs

def Yes (w : World) (e : Ending) (w' : World) : Prop := e = .returned (.bool true) ∧ Bel w w'
theorem arr_cells (x0 x1 x2 x3 : Value) (t : TypeId) (w W : World) (h : W = w.alloc (.cells #[x0, x1, x2, x3] t)) :
    W.cell? ⟨w.heap.size, 0, none⟩ = some x0 ∧ W.cell? ⟨w.heap.size, 1, none⟩ = some x1 ∧ W.cell? ⟨w.heap.size, 2, none⟩ = some x2 ∧ W.cell? ⟨w.heap.size, 3, none⟩ = some x3 ∧ w.heap.size < W.heap.size ∧ Bel w W := by
  subst h
  exact ⟨World.cell?_alloc_at _ _ _ _ rfl, World.cell?_alloc_at _ _ _ _ rfl, World.cell?_alloc_at _ _ _ _ rfl, World.cell?_alloc_at _ _ _ _ rfl, by simp, (Bel.refl _).new _⟩

set_option maxRecDepth 100000 in
set_option maxHeartbeats 4000000 in
theorem sizesSums_any (x0 x1 x2 x3 : Int) (w : World) (hg : Holds Run.glob w) (u0 : U x0) (u1 : U x1) (u2 : U x2) (u3 : U x3) :
    Calls Tryz.prog 3 #[.agg #[.int .u64 x0, .int .u64 x1, .int .u64 x2, .int .u64 x3]] w (Yes w) := by
  have HG := Lib.hid hg
  clear hg
  go_enter Tryz.func3, Tryz.ntmps3
  go_upto_region 1 with fail
  obtain ⟨W, hW⟩ : ∃ W, W = w.alloc (.cells #[.int .u64 x0, .int .u64 x1, .int .u64 x2, .int .u64 x3] 23) := ⟨_, rfl⟩
  obtain ⟨c0, c1, c2, c3, sz, hbW⟩ := arr_cells _ _ _ _ _ _ _ hW
  rw [← hW]
  have HBW0 := Lib.hid hbW
  clear hbW hW
  go_cut [3, 4] (fun s7 s8 wx => ∃ g h : Nat, s7 = .pointer (some ⟨g, 0, none⟩) ∧ s8 = .pointer (some ⟨h, 0, none⟩) ∧ g < wx.heap.size ∧ h < wx.heap.size ∧ Bel W wx ∧ wx.cell? ⟨g, 0, none⟩ = some (.int .u64 x0) ∧ wx.cell? ⟨g, 1, none⟩ = some (.int .u64 x1) ∧ wx.cell? ⟨h, 0, none⟩ = some (.int .u64 x2) ∧ wx.cell? ⟨h, 1, none⟩ = some (.int .u64 x3))
  case first =>
    have HBW : Hid (Bel W W) := Lib.hid (Bel.refl _)
    have k0 := cell_grow c0
    have k1 := cell_grow c1
    have k2 := cell_grow c2
    have k3 := cell_grow c3
    refine region_head 10 (by kernel_rfl) (by kernel_rfl) ?_
    simp only [List.take_succ_cons, List.take_zero]
    repeat (refine wpIf_step (fun K hK => ?_); go_simp; refine hK _ ?_; clear hK K)
    refine wpIf_nil ?_
    simp only [listN, List.length_cons, List.length_nil, Nat.reduceAdd, Nat.reduceSub, Array.replicate_succ, Array.replicate_zero, List.push_toArray, List.setIfInBounds_toArray, List.set_cons_zero, List.set_cons_succ, List.cons_append, List.nil_append]
    all_goals
      first
      | refine wpAnyH_all (rs := [10, 11]) (by decide +kernel) (by simp) ?_
      | refine wpAnyH_all (rs := [11, 12]) (by decide +kernel) (by simp) ?_
      | refine wpAnyH_all (rs := [10, 13]) (by decide +kernel) (by simp) ?_
      | refine wpAnyH_all (rs := [11]) (by decide +kernel) (by simp) ?_
      | refine wpAnyH_all (rs := [10]) (by decide +kernel) (by simp) ?_
      | refine wpAnyH_all (rs := [12, 13]) (by decide +kernel) (by simp) ?_
      | refine wpAnyH_all (rs := [12]) (by decide +kernel) (by simp) ?_
      | refine wpAnyH_all (rs := [13]) (by decide +kernel) (by simp) ?_
    all_goals
      intro i hi
      simp only [List.mem_cons, List.not_mem_nil, or_false] at hi
      first
      | (rcases hi with rfl | rfl)
      | subst hi
    all_goals
      refine wpOp_mk rfl rfl (fun K hK => ?_)
      go_simp
      refine hK _ _ ⟨regrown_mk (by repeat (first | exact Bel.refl _ | refine Bel.drew ?_ | refine Bel.new ?_ _ | (refine Bel.store ?_ (by simp) _))), ?_⟩
      clear hK K
    all_goals
      first
      | refine wpAnyH_all (rs := [10, 11]) (by decide +kernel) (by simp) ?_
      | refine wpAnyH_all (rs := [11, 12]) (by decide +kernel) (by simp) ?_
      | refine wpAnyH_all (rs := [10, 13]) (by decide +kernel) (by simp) ?_
      | refine wpAnyH_all (rs := [11]) (by decide +kernel) (by simp) ?_
      | refine wpAnyH_all (rs := [10]) (by decide +kernel) (by simp) ?_
      | refine wpAnyH_all (rs := [12, 13]) (by decide +kernel) (by simp) ?_
      | refine wpAnyH_all (rs := [12]) (by decide +kernel) (by simp) ?_
      | refine wpAnyH_all (rs := [13]) (by decide +kernel) (by simp) ?_
    all_goals
      intro i hi
      simp only [List.mem_cons, List.not_mem_nil, or_false] at hi
      first
      | (rcases hi with rfl | rfl)
      | subst hi
    all_goals
      refine wpOp_mk rfl rfl (fun K hK => ?_)
      go_simp
      refine hK _ _ ⟨regrown_mk (by repeat (first | exact Bel.refl _ | refine Bel.drew ?_ | refine Bel.new ?_ _ | (refine Bel.store ?_ (by simp) _))), ?_⟩
      clear hK K
    all_goals
      first
      | refine wpAnyH_all (rs := [10, 11]) (by decide +kernel) (by simp) ?_
      | refine wpAnyH_all (rs := [11, 12]) (by decide +kernel) (by simp) ?_
      | refine wpAnyH_all (rs := [10, 13]) (by decide +kernel) (by simp) ?_
      | refine wpAnyH_all (rs := [11]) (by decide +kernel) (by simp) ?_
      | refine wpAnyH_all (rs := [10]) (by decide +kernel) (by simp) ?_
      | refine wpAnyH_all (rs := [12, 13]) (by decide +kernel) (by simp) ?_
      | refine wpAnyH_all (rs := [12]) (by decide +kernel) (by simp) ?_
      | refine wpAnyH_all (rs := [13]) (by decide +kernel) (by simp) ?_
    all_goals
      intro i hi
      simp only [List.mem_cons, List.not_mem_nil, or_false] at hi
      first
      | (rcases hi with rfl | rfl)
      | subst hi
    all_goals
      refine wpOp_mk rfl rfl (fun K hK => ?_)
      go_simp
      refine hK _ _ ⟨regrown_mk (by repeat (first | exact Bel.refl _ | refine Bel.drew ?_ | refine Bel.new ?_ _ | (refine Bel.store ?_ (by simp) _))), ?_⟩
      clear hK K
    all_goals
      first
      | refine wpAnyH_all (rs := [10, 11]) (by decide +kernel) (by simp) ?_
      | refine wpAnyH_all (rs := [11, 12]) (by decide +kernel) (by simp) ?_
      | refine wpAnyH_all (rs := [10, 13]) (by decide +kernel) (by simp) ?_
      | refine wpAnyH_all (rs := [11]) (by decide +kernel) (by simp) ?_
      | refine wpAnyH_all (rs := [10]) (by decide +kernel) (by simp) ?_
      | refine wpAnyH_all (rs := [12, 13]) (by decide +kernel) (by simp) ?_
      | refine wpAnyH_all (rs := [12]) (by decide +kernel) (by simp) ?_
      | refine wpAnyH_all (rs := [13]) (by decide +kernel) (by simp) ?_
    all_goals
      intro i hi
      simp only [List.mem_cons, List.not_mem_nil, or_false] at hi
      first
      | (rcases hi with rfl | rfl)
      | subst hi
    all_goals
      refine wpOp_mk rfl rfl (fun K hK => ?_)
      go_simp
      refine hK _ _ ⟨regrown_mk (by repeat (first | exact Bel.refl _ | refine Bel.drew ?_ | refine Bel.new ?_ _ | (refine Bel.store ?_ (by simp) _))), ?_⟩
      clear hK K
    all_goals
      refine wpAnyH_done (by decide +kernel) ?_ _
      refine NoPanic.normal ?_
    · go_wp2_with fail
      go_meet
      refine ⟨W.heap.size , W.heap.size + 1, rfl, rfl, (by simp only [World.size_drew, World.size_alloc]; omega), (by simp only [World.size_drew, World.size_alloc]; omega), ?_, by simp, by simp, by simp, by simp⟩
      exact (((Bel.refl _).new _).new _).drew
    · go_wp2_with fail
      go_meet
      refine ⟨W.heap.size + 1, W.heap.size , rfl, rfl, (by simp only [World.size_drew, World.size_alloc]; omega), (by simp only [World.size_drew, World.size_alloc]; omega), ?_, by simp, by simp, by simp, by simp⟩
      exact (((Bel.refl _).new _).new _).drew
  case rest =>
    obtain ⟨g, h, rfl, rfl, hg, hh, hbc, g0, g1, h0, h1⟩ := hcut
    have HBC : Hid (Bel w wc) := Lib.hid (HBW0.out.then hbc)
    clear hbc c0 c1 c2 c3 sz HBW0
    obtain ⟨V, hV⟩ : ∃ V, V = wc := ⟨_, rfl⟩
    subst hV
    go_upto_region 2 with fail
    go_cut [5, 6] (fun s7 s8 wx => ∃ g h : Nat, s7 = .pointer (some ⟨g, 0, none⟩) ∧ s8 = .pointer (some ⟨h, 0, none⟩) ∧ g < wx.heap.size ∧ h < wx.heap.size ∧ Bel V wx ∧ wx.cell? ⟨g, 0, none⟩ = some (.int .u64 x0) ∧ wx.cell? ⟨g, 1, none⟩ = some (.int .u64 x1) ∧ wx.cell? ⟨h, 0, none⟩ = some (.int .u64 x2) ∧ wx.cell? ⟨h, 1, none⟩ = some (.int .u64 x3))
    case first =>
      have k0 := cell_grow g0
      have k1 := cell_grow g1
      have k2 := cell_grow h0
      have k3 := cell_grow h1
      refine region_head 2 (by kernel_rfl) (by kernel_rfl) ?_
      simp only [List.take_succ_cons, List.take_zero]
      repeat (refine wpIf_step (fun K hK => ?_); go_simp; refine hK _ ?_; clear hK K)
      refine wpIf_nil ?_
      simp only [listN, List.length_cons, List.length_nil, Nat.reduceAdd, Nat.reduceSub, Array.replicate_succ, Array.replicate_zero, List.push_toArray, List.setIfInBounds_toArray, List.set_cons_zero, List.set_cons_succ, List.cons_append, List.nil_append]
      all_goals
        first
        | refine wpAnyH_all (rs := [2, 3]) (by decide +kernel) (by simp) ?_
        | refine wpAnyH_all (rs := [3, 4]) (by decide +kernel) (by simp) ?_
        | refine wpAnyH_all (rs := [2, 5]) (by decide +kernel) (by simp) ?_
        | refine wpAnyH_all (rs := [3]) (by decide +kernel) (by simp) ?_
        | refine wpAnyH_all (rs := [2]) (by decide +kernel) (by simp) ?_
        | refine wpAnyH_all (rs := [4, 5]) (by decide +kernel) (by simp) ?_
        | refine wpAnyH_all (rs := [4]) (by decide +kernel) (by simp) ?_
        | refine wpAnyH_all (rs := [5]) (by decide +kernel) (by simp) ?_
      all_goals
        intro i hi
        simp only [List.mem_cons, List.not_mem_nil, or_false] at hi
        first
        | (rcases hi with rfl | rfl)
        | subst hi
      all_goals
        refine wpOp_mk rfl rfl (fun K hK => ?_)
        go_simp
        refine hK _ _ ⟨regrown_mk (by repeat (first | exact Bel.refl _ | refine Bel.drew ?_ | refine Bel.new ?_ _ | (refine Bel.store ?_ (by simp) _))), ?_⟩
        clear hK K
      all_goals
        first
        | refine wpAnyH_all (rs := [2, 3]) (by decide +kernel) (by simp) ?_
        | refine wpAnyH_all (rs := [3, 4]) (by decide +kernel) (by simp) ?_
        | refine wpAnyH_all (rs := [2, 5]) (by decide +kernel) (by simp) ?_
        | refine wpAnyH_all (rs := [3]) (by decide +kernel) (by simp) ?_
        | refine wpAnyH_all (rs := [2]) (by decide +kernel) (by simp) ?_
        | refine wpAnyH_all (rs := [4, 5]) (by decide +kernel) (by simp) ?_
        | refine wpAnyH_all (rs := [4]) (by decide +kernel) (by simp) ?_
        | refine wpAnyH_all (rs := [5]) (by decide +kernel) (by simp) ?_
      all_goals
        intro i hi
        simp only [List.mem_cons, List.not_mem_nil, or_false] at hi
        first
        | (rcases hi with rfl | rfl)
        | subst hi
      all_goals
        refine wpOp_mk rfl rfl (fun K hK => ?_)
        go_simp
        refine hK _ _ ⟨regrown_mk (by repeat (first | exact Bel.refl _ | refine Bel.drew ?_ | refine Bel.new ?_ _ | (refine Bel.store ?_ (by simp) _))), ?_⟩
        clear hK K
      all_goals
        first
        | refine wpAnyH_all (rs := [2, 3]) (by decide +kernel) (by simp) ?_
        | refine wpAnyH_all (rs := [3, 4]) (by decide +kernel) (by simp) ?_
        | refine wpAnyH_all (rs := [2, 5]) (by decide +kernel) (by simp) ?_
        | refine wpAnyH_all (rs := [3]) (by decide +kernel) (by simp) ?_
        | refine wpAnyH_all (rs := [2]) (by decide +kernel) (by simp) ?_
        | refine wpAnyH_all (rs := [4, 5]) (by decide +kernel) (by simp) ?_
        | refine wpAnyH_all (rs := [4]) (by decide +kernel) (by simp) ?_
        | refine wpAnyH_all (rs := [5]) (by decide +kernel) (by simp) ?_
      all_goals
        intro i hi
        simp only [List.mem_cons, List.not_mem_nil, or_false] at hi
        first
        | (rcases hi with rfl | rfl)
        | subst hi
      all_goals
        refine wpOp_mk rfl rfl (fun K hK => ?_)
        go_simp
        refine hK _ _ ⟨regrown_mk (by repeat (first | exact Bel.refl _ | refine Bel.drew ?_ | refine Bel.new ?_ _ | (refine Bel.store ?_ (by simp) _))), ?_⟩
        clear hK K
      all_goals
        first
        | refine wpAnyH_all (rs := [2, 3]) (by decide +kernel) (by simp) ?_
        | refine wpAnyH_all (rs := [3, 4]) (by decide +kernel) (by simp) ?_
        | refine wpAnyH_all (rs := [2, 5]) (by decide +kernel) (by simp) ?_
        | refine wpAnyH_all (rs := [3]) (by decide +kernel) (by simp) ?_
        | refine wpAnyH_all (rs := [2]) (by decide +kernel) (by simp) ?_
        | refine wpAnyH_all (rs := [4, 5]) (by decide +kernel) (by simp) ?_
        | refine wpAnyH_all (rs := [4]) (by decide +kernel) (by simp) ?_
        | refine wpAnyH_all (rs := [5]) (by decide +kernel) (by simp) ?_
      all_goals
        intro i hi
        simp only [List.mem_cons, List.not_mem_nil, or_false] at hi
        first
        | (rcases hi with rfl | rfl)
        | subst hi
      all_goals
        refine wpOp_mk rfl rfl (fun K hK => ?_)
        go_simp
        refine hK _ _ ⟨regrown_mk (by repeat (first | exact Bel.refl _ | refine Bel.drew ?_ | refine Bel.new ?_ _ | (refine Bel.store ?_ (by simp) _))), ?_⟩
        clear hK K
      all_goals
        refine wpAnyH_done (by decide +kernel) ?_ _
        refine NoPanic.normal ?_
      · go_wp2_with fail
        go_meet
        refine ⟨V.heap.size , V.heap.size + 1, rfl, rfl, (by simp only [World.size_drew, World.size_alloc]; omega), (by simp only [World.size_drew, World.size_alloc]; omega), ?_, by simp, by simp, by simp, by simp⟩
        exact (((Bel.refl _).new _).new _).drew
      · go_wp2_with fail
        go_meet
        refine ⟨V.heap.size + 1, V.heap.size , rfl, rfl, (by simp only [World.size_drew, World.size_alloc]; omega), (by simp only [World.size_drew, World.size_alloc]; omega), ?_, by simp, by simp, by simp, by simp⟩
        exact (((Bel.refl _).new _).new _).drew
    case rest =>
      obtain ⟨p, q, rfl, rfl, hp, hq, hbc, p0, p1, q0, q1⟩ := hcut
      have g0' := (Below.cell hbc (p := ⟨g, 0, none⟩) hg).trans g0
      have g1' := (Below.cell hbc (p := ⟨g, 1, none⟩) hg).trans g1
      have h0' := (Below.cell hbc (p := ⟨h, 0, none⟩) hh).trans h0
      have h1' := (Below.cell hbc (p := ⟨h, 1, none⟩) hh).trans h1
      have HBD : Hid (Bel w wc) := Lib.hid (HBC.out.then hbc)
      clear hbc HBC g0 g1 h0 h1 hg hh
      have kg0 := cell_grow g0'
      have kg1 := cell_grow g1'
      have kh0 := cell_grow h0'
      have kh1 := cell_grow h1'
      have kp0 := cell_grow p0
      have kp1 := cell_grow p1
      have kq0 := cell_grow q0
      have kq1 := cell_grow q1
      clear g0' g1' h0' h1' p0 p1 q0 q1 hp hq
      go_upto_region 3 with fail
      have cW : ∀ d os, Calls Tryz.prog 5 #[] (grow (redrawn wc d) os) fun e w'' => e = .returned (.bool true) ∧ ∃ p : Regrown, w'' = grow (redrawn wc p.d) p.os := fun d os => Calls.regrown_of (Run.wakes_any _ (Run.holds_below (HBD.out.then (below_regrown wc d os)) HG.out))
      have cA : ∀ d os, Calls Tryz.prog 6 #[.agg #[.int .u64 x0, .int .u64 x1], .agg #[.int .u64 x2, .int .u64 x3]] (grow (redrawn wc d) os) fun e w'' => e = .returned (.agg #[.int .u64 (capd (add x0 x2)), .int .u64 (capd (add x1 x3))]) ∧ ∃ p : Regrown, w'' = grow (redrawn wc p.d) p.os := fun d os => Calls.regrown_of (SizesW.add_any x0 x1 x2 x3 _ u0 u1 u2 u3)
      have cB : ∀ d os, Calls Tryz.prog 7 #[.agg #[.int .u64 x0, .int .u64 x1], .agg #[.int .u64 x2, .int .u64 x3]] (grow (redrawn wc d) os) fun e w'' => e = .returned (.agg #[.int .u64 (capd (add x0 x2)), .int .u64 (capd (add x1 x3))]) ∧ ∃ p : Regrown, w'' = grow (redrawn wc p.d) p.os := fun d os => Calls.regrown_of (radd_any x0 x1 x2 x3 _ u0 u1 u2 u3)
      have cC : ∀ d os, Calls Tryz.prog 8 #[.agg #[.int .u64 x0, .int .u64 x1], .agg #[.int .u64 x2, .int .u64 x3]] (grow (redrawn wc d) os) fun e w'' => e = .returned (.agg #[.int .u64 (capd (mul x0 x2)), .int .u64 (capd (mul x1 x3))]) ∧ ∃ p : Regrown, w'' = grow (redrawn wc p.d) p.os := fun d os => Calls.regrown_of (times_any x0 x1 x2 x3 _ u0 u1 u2 u3)
      have cD : ∀ d os, Calls Tryz.prog 9 #[.agg #[.int .u64 x0, .int .u64 x1], .agg #[.int .u64 x2, .int .u64 x3]] (grow (redrawn wc d) os) fun e w'' => e = .returned (.agg #[.int .u64 (capd (mul x0 x2)), .int .u64 (capd (mul x1 x3))]) ∧ ∃ p : Regrown, w'' = grow (redrawn wc p.d) p.os := fun d os => Calls.regrown_of (rtimes_any x0 x1 x2 x3 _ u0 u1 u2 u3)
      clear u0 u1 u2 u3
      generalize capd (add x0 x2) = s0 at *
      generalize capd (add x1 x3) = s1 at *
      generalize capd (mul x0 x2) = s2 at *
      generalize capd (mul x1 x3) = s3 at *
      refine wp_region_quiet_below (by kernel_rfl) (by kernel_rfl) ?_
      repeat (quiet_step (first | exact cW _ _ | exact cA _ _ | exact cB _ _ | exact cC _ _ | exact cD _ _))
      refine wpQuiet_nil ?_
      intro _ hw'
      obtain ⟨⟨dq, osq⟩, hw''⟩ := hw'
      subst hw''
      go_wp2_with fail
      go_ret
      exact ⟨rfl, HBD.out.then (below_regrown wc dq osq)⟩
end Go.Proofs.YtmaphdhdfbgflaaGreatDoor.SizesL
