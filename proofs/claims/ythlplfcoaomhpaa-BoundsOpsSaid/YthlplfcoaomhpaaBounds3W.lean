/- The walks of the laws of layer 11: what wakes answers, the operators, BoundsOp. -/
import Derived.Test.YthlplfcoaomhpaaBounds2W
import Derived.Test.YthlplfcoaomhpaaBoundsL
import Derived.Deep.DeepCutAuto
import Derived.Test.YthlplfcoaomhpaaRegHead
set_option linter.unusedVariables false
namespace Go.Proofs.Ythlplfcoaomhpaa.Bounds3W
open Go.RowKit Go.Proofs.Ythlplfcoaomhpaa.Word Go.Proofs.Ythlplfcoaomhpaa.WordW Go.Proofs.Ythlplfcoaomhpaa.BoundsN Go.Proofs.Ythlplfcoaomhpaa.BoundsW Go.Proofs.Ythlplfcoaomhpaa.Bounds2W Go.Proofs.Ythlplfcoaomhpaa.Mem Go.Proofs.Ythlplfcoaomhpaa.BoundsL Go.Proofs.Ythlplfcoaomhpaa.RegHead

def Yes (w : World) (e : Ending) (w' : World) : Prop := e = .returned (.bool true) ∧ Bel w w'
theorem ur {x y : Int} (hx : 0 ≤ x ∧ x ≤ 18446744073709551615) (hy : 0 ≤ y ∧ y ≤ 18446744073709551615) : UR ⟨x, y⟩ := ⟨hx, hy⟩

set_option maxHeartbeats 1000000 in
theorem wakes_any (w : World) : Calls Try.prog 11 #[] w (Yes w) := by
  have e1 : (bop [45] ⟨3, 9⟩ ⟨5, 6⟩).2 = true := by decide
  have e2 : (bop [45] ⟨3, 9⟩ ⟨5, 6⟩).1.lo = 0 := by decide
  have e3 : (bop [45] ⟨3, 9⟩ ⟨5, 6⟩).1.hi = 4 := by decide
  have e4 : (bop [45] ⟨3, 3⟩ ⟨5, 5⟩).2 = false := by decide
  have e5 : mask 8 = 255 := by decide
  have H1 := Lib.hid (fun w => bop_any ⟨#[45]⟩ ⟨3, 9⟩ ⟨5, 6⟩ w (ur (by decide) (by decide)) (ur (by decide) (by decide)))
  have H2 := Lib.hid (fun w => bop_any ⟨#[45]⟩ ⟨3, 3⟩ ⟨5, 5⟩ w (ur (by decide) (by decide)) (ur (by decide) (by decide)))
  go_enter Try.func11, Try.ntmps11
  go_wp2_with fail
  refine (H1.out _).mono ?_
  rintro e w1 ⟨rfl, hb1⟩
  simp only [ByteArray.toList_mk]
  have HB1 := Lib.hid hb1
  clear hb1
  go_wp2_with (go_at_call 15; refine (point_exact _ _).mono ?_; rintro e w' ⟨rfl, rfl⟩)
  refine (H2.out _).mono ?_
  rintro e w2 ⟨rfl, hb2⟩
  obtain ⟨hc, hf⟩ := bcell hb2
  obtain ⟨hc2, hf2⟩ := acell hb2
  have hz := hb2.size
  simp at hz
  have HB2 := Lib.hid hb2
  clear hb2
  go_wp2_with (go_at_call 16; refine (all_any _ _).mono ?_; rintro e w3 ⟨rfl, hb3⟩; have HB3 := Lib.hid hb3; clear hb3)
  go_ret
  refine ⟨rfl, HB1.out.then (Bel.then (Bel.then ?_ HB2.out) (Bel.then ?_ HB3.out))⟩
  all_goals exact by repeat (first | exact Bel.refl _ | refine Bel.new ?_ _)

/-- The operators, one's own first. -/
def opsL (s : ByteArray) : List ByteArray := [s, ⟨#[43]⟩, ⟨#[45]⟩, ⟨#[42]⟩, ⟨#[47]⟩, ⟨#[37]⟩, ⟨#[38]⟩, ⟨#[124]⟩, ⟨#[60, 60]⟩, ⟨#[62, 62]⟩, ⟨#[61, 61]⟩, ⟨#[33, 61]⟩, ⟨#[60]⟩, ⟨#[60, 61]⟩, ⟨#[62]⟩, ⟨#[62, 61]⟩, ⟨#[38, 38]⟩, ⟨#[124, 124]⟩]
theorem ops_any (s : ByteArray) (w : World) : Calls Try.prog 8 #[.string s] w fun e w' => e = .returned (.slice (some ⟨w.heap.size, 0, none⟩) 18 18) ∧ Bel w w' ∧ w.heap.size < w'.heap.size ∧
    ∀ k, k < 18 → w'.cell? ⟨w.heap.size, k, none⟩ = some (.string ((opsL s).getD k ByteArray.empty)) := by
  go_enter Try.func8, Try.ntmps8
  go_wp2
  go_ret
  refine ⟨rfl, (Bel.refl _).new _, by simp, fun k hk => ?_⟩
  rw [cell_of_row _ _ _ _ 9 (0, 0) (heap_alloc_new w _)]
  have hks : k = 0 ∨ k = 1 ∨ k = 2 ∨ k = 3 ∨ k = 4 ∨ k = 5 ∨ k = 6 ∨ k = 7 ∨ k = 8 ∨ k = 9 ∨ k = 10 ∨ k = 11 ∨ k = 12 ∨ k = 13 ∨ k = 14 ∨ k = 15 ∨ k = 16 ∨ k = 17 := by omega
  rcases hks with rfl | rfl | rfl | rfl | rfl | rfl | rfl | rfl | rfl | rfl | rfl | rfl | rfl | rfl | rfl | rfl | rfl | rfl <;> rfl

set_option maxRecDepth 100000 in
set_option maxHeartbeats 1000000 in
theorem boundsOp_any (x0 x1 x2 x3 p q : Int) (w : World) (u0 : U x0) (u1 : U x1) (u2 : U x2) (u3 : U x3) (up : U p) (uq : U q) :
    Calls Try.prog 4 #[.agg #[.int .u64 x0, .int .u64 x1, .int .u64 x2, .int .u64 x3], .int .u64 p, .int .u64 q] w (Yes w) := by
  go_enter Try.func4, Try.ntmps4
  go_upto_region 1 with fail
  go_cut [7, 8] (fun s7 s8 wx => ∃ g h : Nat, s7 = .pointer (some ⟨g, 0, none⟩) ∧ s8 = .pointer (some ⟨h, 0, none⟩) ∧ g < wx.heap.size ∧ h < wx.heap.size ∧ Bel w wx ∧ wx.cell? ⟨g, 0, none⟩ = some (.int .u64 (min x0 x1)) ∧ wx.cell? ⟨g, 1, none⟩ = some (.int .u64 (max x0 x1)) ∧ wx.cell? ⟨h, 0, none⟩ = some (.int .u64 (min x2 x3)) ∧ wx.cell? ⟨h, 1, none⟩ = some (.int .u64 (max x2 x3)))
  case first =>
    have B1 : Bel w (w.alloc (.cells #[.int .u64 x0, .int .u64 x1, .int .u64 x2, .int .u64 x3] 23)) := (Bel.refl _).new _
    obtain ⟨W, hW⟩ : ∃ W, W = w.alloc (.cells #[.int .u64 x0, .int .u64 x1, .int .u64 x2, .int .u64 x3] 23) := ⟨_, rfl⟩
    have c0 : W.cell? ⟨w.heap.size, 0, none⟩ = some (.int .u64 x0) := by rw [hW]; simp
    have c1 : W.cell? ⟨w.heap.size, 1, none⟩ = some (.int .u64 x1) := by rw [hW]; simp
    have c2 : W.cell? ⟨w.heap.size, 2, none⟩ = some (.int .u64 x2) := by rw [hW]; simp
    have c3 : W.cell? ⟨w.heap.size, 3, none⟩ = some (.int .u64 x3) := by rw [hW]; simp
    have sz : w.heap.size < W.heap.size := by rw [hW]; simp
    rw [← hW] at B1 ⊢
    have HB1 := Lib.hid B1
    clear B1 hW
    have k0 := cell_grow c0
    have k1 := cell_grow c1
    have k2 := cell_grow c2
    have k3 := cell_grow c3
    refine region_head 22 (by kernel_rfl) (by kernel_rfl) ?_
    simp only [List.take_succ_cons, List.take_zero]
    repeat (refine wpIf_step (fun K hK => ?_); go_simp; refine hK _ ?_; clear hK K)
    refine wpIf_nil ?_
    simp only [listN, List.length_cons, List.length_nil, Nat.reduceAdd, Nat.reduceSub, Array.replicate_succ, Array.replicate_zero, List.push_toArray, List.setIfInBounds_toArray, List.set_cons_zero, List.set_cons_succ, List.cons_append, List.nil_append]
    all_goals
      first
      | refine wpAnyH_all (rs := [22, 23]) (by decide +kernel) (by simp) ?_
      | refine wpAnyH_all (rs := [23, 24]) (by decide +kernel) (by simp) ?_
      | refine wpAnyH_all (rs := [22, 25]) (by decide +kernel) (by simp) ?_
      | refine wpAnyH_all (rs := [23]) (by decide +kernel) (by simp) ?_
      | refine wpAnyH_all (rs := [22]) (by decide +kernel) (by simp) ?_
      | refine wpAnyH_all (rs := [24, 25]) (by decide +kernel) (by simp) ?_
      | refine wpAnyH_all (rs := [24]) (by decide +kernel) (by simp) ?_
      | refine wpAnyH_all (rs := [25]) (by decide +kernel) (by simp) ?_
    all_goals
      intro i hi
      simp only [List.mem_cons, List.not_mem_nil, or_false] at hi
      first
      | (rcases hi with rfl | rfl)
      | subst hi
    all_goals
      refine wpOp_mk rfl rfl (fun K hK => ?_)
      go_simp
      refine hK _ _ ⟨regrown_mk (by repeat (first | exact Bel.refl _ | refine Bel.drew ?_ | refine Bel.new ?_ _ | (refine Bel.store ?_ (by simp) _))), ?_⟩
      clear hK K
    all_goals
      first
      | refine wpAnyH_all (rs := [22, 23]) (by decide +kernel) (by simp) ?_
      | refine wpAnyH_all (rs := [23, 24]) (by decide +kernel) (by simp) ?_
      | refine wpAnyH_all (rs := [22, 25]) (by decide +kernel) (by simp) ?_
      | refine wpAnyH_all (rs := [23]) (by decide +kernel) (by simp) ?_
      | refine wpAnyH_all (rs := [22]) (by decide +kernel) (by simp) ?_
      | refine wpAnyH_all (rs := [24, 25]) (by decide +kernel) (by simp) ?_
      | refine wpAnyH_all (rs := [24]) (by decide +kernel) (by simp) ?_
      | refine wpAnyH_all (rs := [25]) (by decide +kernel) (by simp) ?_
    all_goals
      intro i hi
      simp only [List.mem_cons, List.not_mem_nil, or_false] at hi
      first
      | (rcases hi with rfl | rfl)
      | subst hi
    all_goals
      refine wpOp_mk rfl rfl (fun K hK => ?_)
      go_simp
      refine hK _ _ ⟨regrown_mk (by repeat (first | exact Bel.refl _ | refine Bel.drew ?_ | refine Bel.new ?_ _ | (refine Bel.store ?_ (by simp) _))), ?_⟩
      clear hK K
    all_goals
      first
      | refine wpAnyH_all (rs := [22, 23]) (by decide +kernel) (by simp) ?_
      | refine wpAnyH_all (rs := [23, 24]) (by decide +kernel) (by simp) ?_
      | refine wpAnyH_all (rs := [22, 25]) (by decide +kernel) (by simp) ?_
      | refine wpAnyH_all (rs := [23]) (by decide +kernel) (by simp) ?_
      | refine wpAnyH_all (rs := [22]) (by decide +kernel) (by simp) ?_
      | refine wpAnyH_all (rs := [24, 25]) (by decide +kernel) (by simp) ?_
      | refine wpAnyH_all (rs := [24]) (by decide +kernel) (by simp) ?_
      | refine wpAnyH_all (rs := [25]) (by decide +kernel) (by simp) ?_
    all_goals
      intro i hi
      simp only [List.mem_cons, List.not_mem_nil, or_false] at hi
      first
      | (rcases hi with rfl | rfl)
      | subst hi
    all_goals
      refine wpOp_mk rfl rfl (fun K hK => ?_)
      go_simp
      refine hK _ _ ⟨regrown_mk (by repeat (first | exact Bel.refl _ | refine Bel.drew ?_ | refine Bel.new ?_ _ | (refine Bel.store ?_ (by simp) _))), ?_⟩
      clear hK K
    all_goals
      first
      | refine wpAnyH_all (rs := [22, 23]) (by decide +kernel) (by simp) ?_
      | refine wpAnyH_all (rs := [23, 24]) (by decide +kernel) (by simp) ?_
      | refine wpAnyH_all (rs := [22, 25]) (by decide +kernel) (by simp) ?_
      | refine wpAnyH_all (rs := [23]) (by decide +kernel) (by simp) ?_
      | refine wpAnyH_all (rs := [22]) (by decide +kernel) (by simp) ?_
      | refine wpAnyH_all (rs := [24, 25]) (by decide +kernel) (by simp) ?_
      | refine wpAnyH_all (rs := [24]) (by decide +kernel) (by simp) ?_
      | refine wpAnyH_all (rs := [25]) (by decide +kernel) (by simp) ?_
    all_goals
      intro i hi
      simp only [List.mem_cons, List.not_mem_nil, or_false] at hi
      first
      | (rcases hi with rfl | rfl)
      | subst hi
    all_goals
      refine wpOp_mk rfl rfl (fun K hK => ?_)
      go_simp
      refine hK _ _ ⟨regrown_mk (by repeat (first | exact Bel.refl _ | refine Bel.drew ?_ | refine Bel.new ?_ _ | (refine Bel.store ?_ (by simp) _))), ?_⟩
      clear hK K
    all_goals
      refine wpAnyH_done (by decide +kernel) ?_ _
      refine NoPanic.normal ?_
    · go_wp2_with fail
      go_meet
      refine ⟨W.heap.size, W.heap.size + 1, rfl, rfl, (by simp only [World.size_drew, World.size_alloc]; omega), (by simp only [World.size_drew, World.size_alloc]; omega), ?_, by simp, by simp, by simp, by simp⟩
      exact HB1.out.then (((Bel.refl _).new _).new _).drew
    · go_wp2_with fail
      go_meet
      refine ⟨W.heap.size + 1, W.heap.size, rfl, rfl, (by simp only [World.size_drew, World.size_alloc]; omega), (by simp only [World.size_drew, World.size_alloc]; omega), ?_, by simp, by simp, by simp, by simp⟩
      exact HB1.out.then (((Bel.refl _).new _).new _).drew
  case rest =>
    obtain ⟨g, h, rfl, rfl, hg, hh, hbc, g0, g1, h0, h1⟩ := hcut
    have HBC := Lib.hid hbc
    clear hbc
    have ul1 := u0.lo; have uh1 := u0.hi; have ul2 := u1.lo; have uh2 := u1.hi
    have ul3 := u2.lo; have uh3 := u2.hi; have ul4 := u3.lo; have uh4 := u3.hi
    have ul5 := up.lo; have uh5 := up.hi; have ul6 := uq.lo; have uh6 := uq.hi
    go_wp2_with fail
    go_quiet (fail)
    generalize hal : min x0 x1 = al at *
    generalize hah : max x0 x1 = ah at *
    generalize hbl : min x2 x3 = bl at *
    generalize hbh : max x2 x3 = bh at *
    have ua : UR ⟨al, ah⟩ := ⟨⟨by show 0 ≤ al; omega, by show al ≤ top; unfold top; omega⟩, ⟨by show 0 ≤ ah; omega, by show ah ≤ top; unfold top; omega⟩⟩
    have ub : UR ⟨bl, bh⟩ := ⟨⟨by show 0 ≤ bl; omega, by show bl ≤ top; unfold top; omega⟩, ⟨by show 0 ≤ bh; omega, by show bh ≤ top; unfold top; omega⟩⟩
    have ip : In (max al (min p ah)) ⟨al, ah⟩ := ⟨by show al ≤ _; omega, by show _ ≤ ah; omega⟩
    have iq : In (max bl (min q bh)) ⟨bl, bh⟩ := ⟨by show bl ≤ _; omega, by show _ ≤ bh; omega⟩
    generalize hp' : max al (min p ah) = p' at *
    generalize hq' : max bl (min q bh) = q' at *
    have up' : U p' := ⟨by have := ip.1; have := ua.1.1; simp only at *; omega, by have := ip.2; have := ua.2.2; simp only at *; omega⟩
    have uq' : U q' := ⟨by have := iq.1; have := ub.1.1; simp only at *; omega, by have := iq.2; have := ub.2.2; simp only at *; omega⟩
    clear hal hah hbl hbh hp' hq' ul1 uh1 ul2 uh2 ul3 uh3 ul4 uh4 ul5 uh5 ul6 uh6 u0 u1 u2 u3 up uq
    have HB := Lib.hid (fun s w => bop_any s ⟨al, ah⟩ ⟨bl, bh⟩ w ua ub)
    have HO := Lib.hid (fun s w => WordW.op_any s p' q' w up' uq')
    go_wp2_with fail
    refine (ops_any _ _).mono ?_
    rintro e w1 ⟨rfl, hb1, hs1, hc1⟩
    have HC1 := Lib.hid hc1
    have g0' := (Below.cell hb1 (p := ⟨g, 0, none⟩) hg).trans g0
    have g1' := (Below.cell hb1 (p := ⟨g, 1, none⟩) hg).trans g1
    have h0' := (Below.cell hb1 (p := ⟨h, 0, none⟩) hh).trans h0
    have h1' := (Below.cell hb1 (p := ⟨h, 1, none⟩) hh).trans h1
    have hgs : g < w1.heap.size := Nat.lt_of_lt_of_le hg hb1.size
    have hhs : h < w1.heap.size := Nat.lt_of_lt_of_le hh hb1.size
    have HB1 : Hid (Bel w w1) := Lib.hid (HBC.out.then ((Bel.drewN (Bel.refl _) _).then hb1))
    clear hc1 hb1 g0 g1 h0 h1 hg hh
    go_wp2_with fail
    go_loopw [54] (fun i wr => ∃ k : Nat, k ≤ 18 ∧ i = .int .i64 k ∧ Bel w1 wr) (fun i _ => 18 - (intOf i).toNat)
    case atStart => exact ⟨0, by omega, rfl, Bel.refl _⟩
    case round =>
      obtain ⟨k, hk, rfl, hbel⟩ := hrel
      have q0 := (Below.cell hbel (p := ⟨g, 0, none⟩) hgs).trans g0'
      have q1 := (Below.cell hbel (p := ⟨g, 1, none⟩) hgs).trans g1'
      have q2 := (Below.cell hbel (p := ⟨h, 0, none⟩) hhs).trans h0'
      have q3 := (Below.cell hbel (p := ⟨h, 1, none⟩) hhs).trans h1'
      have HBE := Lib.hid hbel
      by_cases hlt : k < 18
      · have hck := (Below.cell hbel (p := ⟨wc.heap.size, k, none⟩) (by simpa using hs1)).trans (by simpa using HC1.out k hlt)
        generalize (opsL ⟨#[43]⟩)[k]?.getD ByteArray.empty = s at hck
        clear hbel g0' g1' h0' h1'
        have hin := bop_in s.toList ua ub ip iq
        by_cases he : (op s.toList p' q').2 = 0
        · obtain ⟨i1, i2, i3⟩ := hin he
          have he2 : ((op s.toList p' q').2 == 0) = true := beq_iff_eq.2 he
          have hhas : has (bop s.toList ⟨al, ah⟩ ⟨bl, bh⟩).1 (op s.toList p' q').1 = true := by unfold has; simp [i2, i3]
          clear hin i2 i3 ip iq
          go_wp2_with (first
            | (go_at_call 9; refine (HB.out _ _).mono ?_; rintro e w5 ⟨rfl, hb5⟩; have H5 := Lib.hid hb5; clear hb5)
            | (go_at_call 18; refine (HO.out _ _).mono ?_; rintro e w5 ⟨rfl, rfl⟩)
            | (go_at_call 14; refine (has_any (bop s.toList ⟨al, ah⟩ ⟨bl, bh⟩).1 _ _).mono ?_; rintro e w6 ⟨rfl, hb6⟩; have H6 := Lib.hid hb6; clear hb6))
          go_roundw
          case rel => exact ⟨k + 1, by omega, by go_num, HBE.out.then (Bel.then (H5.out.new _) H6.out)⟩
          case measure => simp [intOf]; omega
        · have he2 : ((op s.toList p' q').2 == 0) = false := beq_eq_false_iff_ne.2 he
          clear hin ip iq
          go_wp2_with (first
            | (go_at_call 9; refine (HB.out _ _).mono ?_; rintro e w5 ⟨rfl, hb5⟩; have H5 := Lib.hid hb5; clear hb5)
            | (go_at_call 18; refine (HO.out _ _).mono ?_; rintro e w5 ⟨rfl, rfl⟩))
          go_roundw
          case rel => exact ⟨k + 1, by omega, by go_num, HBE.out.then (H5.out.new _)⟩
          case measure => simp [intOf]; omega
      · have e18 : k = 18 := by omega
        subst e18
        have j1 : has ⟨min al bl, max ah bh⟩ p' = true := by have h1 := ip.1; have h2 := ip.2; simp only at h1 h2; unfold has; simp; omega
        have j2 : has ⟨min al bl, max ah bh⟩ q' = true := by have h1 := iq.1; have h2 := iq.2; simp only at h1 h2; unfold has; simp; omega
        clear hbel g0' g1' h0' h1' ip iq
        go_wp2_with fail
        refine (join_any ⟨al, ah⟩ ⟨bl, bh⟩ _).mono ?_
        rintro e w6 ⟨rfl, hb6⟩
        have H6 := Lib.hid hb6
        clear hb6
        generalize min al bl = jl at *
        generalize max ah bh = jh at *
        go_wp2_with fail
        refine (wakes_any _).mono ?_
        rintro e w7 ⟨rfl, hb7⟩
        have c6l := (Below.cell hb7 (p := ⟨w6.heap.size, 0, none⟩) (by simp)).trans (by simp : _ = some (.int .u64 jl))
        have c6h := (Below.cell hb7 (p := ⟨w6.heap.size, 1, none⟩) (by simp)).trans (by simp : _ = some (.int .u64 jh))
        have H7 := Lib.hid hb7
        have z6 : w6.heap.size < w7.heap.size := by have := hb7.size; simp at this; omega
        clear hb7
        go_wp2_with fail
        refine (has_any ⟨jl, jh⟩ _ _).mono ?_
        rintro e w8 ⟨rfl, hb8⟩
        have c8l := (Below.cell hb8 (p := ⟨w6.heap.size, 0, none⟩) z6).trans c6l
        have c8h := (Below.cell hb8 (p := ⟨w6.heap.size, 1, none⟩) z6).trans c6h
        have H8 := Lib.hid hb8
        clear hb8
        go_wp2_with fail
        refine (has_any ⟨jl, jh⟩ _ _).mono ?_
        rintro e w9 ⟨rfl, hb9⟩
        have H9 := Lib.hid hb9
        clear hb9
        go_wp2_with fail
        go_ret
        exact ⟨rfl, HB1.out.then (HBE.out.then (((H6.out.new _).then H7.out).then (H8.out.then H9.out)))⟩
end Go.Proofs.Ythlplfcoaomhpaa.Bounds3W
