/- The law BoundsWider, walked. -/
import Derived.Test.YtadigpaglappbaaPointX
set_option linter.unusedVariables false
namespace Go.Proofs.Ytadigpaglappbaa.WiderX
open Go.Sort Go.RowKit Go.Proofs.Ytadigpaglappbaa.Word Go.Proofs.Ytadigpaglappbaa.WordW Go.Proofs.Ytadigpaglappbaa.BoundsN Go.Proofs.Ytadigpaglappbaa.BoundsW Go.Proofs.Ytadigpaglappbaa.Bounds2T Go.Proofs.Ytadigpaglappbaa.Bounds3T Go.Proofs.Ytadigpaglappbaa.Mem Go.Proofs.Ytadigpaglappbaa.RegHead Go.Proofs.Ytadigpaglappbaa.VarsW Go.Proofs.Ytadigpaglappbaa.PointW Go.Proofs.Ytadigpaglappbaa.PointX
open Go.Abs.Sy (EX VU ExprsAt FileAt RowsAt fileN trunc num pt arow erow evalN ofN renvN envN files_any of_any eval_any)
theorem acells_one {ts : List PointW.V} : ∀ u ∈ acells ts, u.oneCell' = true := by
  intro u hu
  unfold acells at hu
  obtain ⟨x, _, h⟩ := List.mem_flatMap.1 hu
  simp only [List.mem_cons, List.not_mem_nil, or_false] at h
  rcases h with rfl | rfl | rfl <;> rfl
set_option maxRecDepth 100000 in
set_option maxHeartbeats 4000000 in
theorem wider_any {w : World} {lv vv : Value} (at' : Int) {es : List EX} {vs : List PointW.V} (hl : ExprsAt w lv es) (hv : Sl w vv vs.length 4 (vcell vs)) (hes : ∀ x ∈ es, U x.n) (hvs : ∀ v ∈ vs, VU v) (hel : es.length ≤ maxLen) :
    Calls Try.prog 5 #[lv, .int .i64 at', vv] w (Yes w) := by
  obtain ⟨oa, cap, rfl⟩ : ∃ oa cap, lv = .slice oa es.length cap := by
    rcases hl with ⟨rfl, rfl⟩ | ⟨a, cap, rfl, _⟩
    · exact ⟨_, _, rfl⟩
    · exact ⟨_, _, rfl⟩
  have HF := Lib.hid (files_any hl)
  have HV := Lib.hid hv
  have HU : Hid (∀ v ∈ vs.take (min vs.length 20), VU v) := Lib.hid fun v h => hvs v (List.mem_of_mem_take h)
  have HG : Hid ((∀ j v, j < vs.length → vs[j]? = some v → v.lo ≤ v.hi) → ∀ v ∈ vs.take (min vs.length 20), v.lo ≤ v.hi) := Lib.hid fun h v hv => by
    obtain ⟨j, hj, e⟩ := List.getElem_of_mem (List.mem_of_mem_take hv)
    exact h j v hj (by rw [List.getElem?_eq_getElem hj, e])
  have HL : Hid ((vs.take (min vs.length 20)).length = min vs.length 20) := Lib.hid (by rw [List.length_take]; omega)
  have HM : Hid (min vs.length 20 ≤ 20) := Lib.hid (by omega)
  have HES := Lib.hid (Go.Abs.Sy.file_U hes)
  have HFL := Lib.hid (Go.Abs.Sy.file_len es)
  have HLEN : Hid (∀ k, k < vs.length → ∃ x, vs[k]? = some x) := Lib.hid fun k hk => ⟨_, List.getElem?_eq_getElem hk⟩
  generalize fileN es = fs at *
  obtain ⟨va, vcap, rfl, _, hvm, hcells, _⟩ := hv
  have HC := Lib.hid hcells
  clear hl hes hvs hcells
  generalize hvl : vs.length = vl at *
  have hv63 : vl ≤ 9223372036854775807 := by unfold maxLen at hvm; omega
  go_enter Try.func5, Try.ntmps5
  go_wp2_with fail
  refine HF.out.mono ?_
  rintro e w1 ⟨fv, gv, rfl, hf1, hb1⟩
  have HF1 := Lib.hid hf1
  have HB1 := Lib.hid hb1
  clear hf1 hb1 HF
  go_wp2_with fail
  go_loopw [27] (fun i wr => ∃ k : Nat, k ≤ vl ∧ i = .int .i64 k ∧ (∀ j v, j < k → vs[j]? = some v → v.lo ≤ v.hi) ∧ Bel w1 wr) (fun i _ => vl - (intOf i).toNat)
  case atStart => exact ⟨0, by omega, rfl, fun j v hj => by omega, Bel.refl _⟩
  case round =>
    obtain ⟨k, hk, rfl, hgood, hbr⟩ := hrel
    have HGD := Lib.hid hgood
    have HBR := Lib.hid hbr
    clear hgood hbr
    by_cases hlt : k < vl
    · obtain ⟨b, o, rfl, hcl⟩ := HC.out (by omega)
      obtain ⟨x, hx⟩ := HLEN.out k (by omega)
      obtain ⟨x0, x1, x2, x3⟩ := vcell_at hx
      have c1 := Go.Abs.Sy.bel_cell HBR.out (Go.Abs.Sy.bel_cell HB1.out (hcl k 1 (by omega) (by omega)))
      have c2 := Go.Abs.Sy.bel_cell HBR.out (Go.Abs.Sy.bel_cell HB1.out (hcl k 2 (by omega) (by omega)))
      rw [x1] at c1; rw [x2] at c2
      have HX := Lib.hid hx
      clear hcl x0 x1 x2 x3 hx
      by_cases hlo : x.hi < x.lo
      · have c1 := cell_grow c1
        have c2 := cell_grow c2
        go_wp2_with fail
        go_quiet (fail)
        go_wp2_with (go_at_call 11; refine (wakes_any _).mono ?_; rintro e w' ⟨rfl, hb'⟩)
        go_ret
        exact ⟨rfl, Bel.then HB1.out (Bel.then HBR.out (Bel.then (Bel.drewN (Bel.refl _) _) hb'))⟩
      · have c1 := cell_grow c1
        have c2 := cell_grow c2
        have hd : decide (x.hi < x.lo) = false := decide_eq_false hlo
        go_wp2_with fail
        go_quiet (fail)
        go_wp2_with fail
        go_roundw
        case rel =>
          refine ⟨k + 1, by omega, by go_num, fun j v hj hv => ?_, HBR.out.drewN _⟩
          by_cases hjk : j = k
          · subst hjk
            rw [HX.out] at hv
            cases hv
            omega
          · exact HGD.out j v (by omega) hv
        case measure => simp [intOf]; omega
    · have ek : k = vl := by omega
      subst ek
      have HG2 := Lib.hid (HG.out HGD.out)
      clear hk hlt HG HGD HC HLEN
      go_wp2_with fail
      refine (vars_any vs _ _ (by rw [hvl]; exact Sl.below (Sl.below HV.out HB1.out) HBR.out)).mono ?_
      rintro e w2 ⟨ra, rb, rc, rfl, hb2, oa2, oc2⟩
      clear HV
      rw [hvl] at oa2 oc2
      generalize hus : vs.take (min k 20) = us at *
      generalize hm : min k 20 = m at *
      have S9 : Hid ((ra = .slice none 0 0 ∧ m = 0) ∨ ∃ g cap9, ra = .slice (some ⟨g, 0, none⟩) m cap9) := Lib.hid (by
        rcases oa2.2 with h | ⟨g, c, cur, h, _⟩
        · exact .inl h
        · exact .inr ⟨g, c, h⟩)
      obtain ⟨a11, cap11, rfl, s11⟩ := own_shape oc2
      have HA := Lib.hid oa2
      have HC := Lib.hid oc2
      have HB2 := Lib.hid hb2
      have S11 := Lib.hid s11
      have M20 := HM.out
      obtain ⟨ia, hia, hza0, hza1, hza2⟩ := info_parts info_a
      clear oa2 oc2 hb2 s11
      go_upto_region 9 with fail
      go_cut [13] (fun s13 wx => wx.ownsRow w2.heap.size 41 3 s13 m (acells us) ∧ Bel w2 wx)
      case first =>
        rcases S9.out with ⟨rfl, rfl⟩ | ⟨g, cap9, rfl⟩
        · have us0 : acells us = [] := by
            have := HL.out
            rw [List.eq_nil_of_length_eq_zero this]
            rfl
          go_wp2_with fail
          go_meet
          rw [us0]
          exact ⟨World.ownsRow_nil _ _ _ _, Bel.refl _⟩
        · go_wp2_with (at_builtin; refine wpList_append_own _ rfl _ _ 28 rfl w2.heap.size 41 ia (.agg #[.string ByteArray.empty, .int .u64 0, .int .u64 0]) 3 32 Try.underlying28 hia hza0 hza1 hza2 rfl (by decide) (.slice none 0 0) 0 [] rfl (World.ownsRow_nil _ _ _ _) ⟨g, 0, none⟩ m cap9 (acells us) rfl (by rw [acells_len, HL.out]) (fun j u hj => by have := HA.out.cells rfl j u hj; simpa using this) acells_one (by unfold maxLen; omega) (by omega) (Nat.le_refl _) ?_)
          intro v5 w3 hv5 hg5 _
          have HV5 := Lib.hid hv5
          have HG5 := Lib.hid hg5
          clear hv5 hg5
          go_wp2_with fail
          go_meet
          exact ⟨HV5.out, (Bel.refl w2).grown HG5.out (Nat.le_refl _) (fun q hq => by cases hq)⟩
      case rest =>
        obtain ⟨o13, hb3⟩ := hcut
        obtain ⟨a13, cap13, rfl, s13⟩ := own_shape o13
        have O13 := Lib.hid o13
        have S13 := Lib.hid s13
        have HB3 := Lib.hid hb3
        clear o13 s13 hb3
        go_wp2_with fail
        go_loopw [53] (fun i wr => ∃ p : Nat, p ≤ m ∧ i = .int .i64 p ∧ wr.ownsRow w2.heap.size 41 3 (.slice a13 m cap13) m (acells (mixL us p)) ∧ Bel w2 wr) (fun i _ => m - (intOf i).toNat)
        case atStart => exact ⟨0, by omega, rfl, O13.out, HB3.out⟩
        case round =>
          obtain ⟨p, hp, rfl, ho9, hbp⟩ := hrel
          have HBP := Lib.hid hbp
          clear hbp
          by_cases hlt2 : p < m
          · obtain ⟨g9, rfl, hg9, _⟩ := S13.out (by omega)
            obtain ⟨g11, rfl, hg11, _⟩ := S11.out (by omega)
            have hkl : p < us.length := by have := HL.out; omega
            obtain ⟨x, hx⟩ : ∃ x, us[p]? = some x := ⟨us[p], List.getElem?_eq_getElem hkl⟩
            have c2 := ((own_bel HC.out HBP.out).cellAt (p * 2 + 1) (by omega)).trans (ecells_at hx)
            have hln := ho9.1
            obtain ⟨y1, hy1⟩ : ∃ u, (acells (mixL us p))[p * 3 + 1]? = some u := ⟨_, List.getElem?_eq_getElem (by omega)⟩
            obtain ⟨y2, hy2⟩ : ∃ u, (acells (mixL us p))[p * 3 + 1 + 1]? = some u := ⟨_, List.getElem?_eq_getElem (by omega)⟩
            have d1 : ∀ o, (wr.alloc o).cell? ⟨g9, p * 3 + 1, none⟩ = some y1 := fun o => ((ho9.alloc o).cellAt (p * 3 + 1) (by omega)).trans hy1
            have d2 : ∀ o, (wr.alloc o).cell? ⟨g9, p * 3 + 1 + 1, none⟩ = some y2 := fun o => ((ho9.alloc o).cellAt (p * 3 + 1 + 1) (by omega)).trans hy2
            have fz : ∀ o j, (wr.alloc o).frozen? ⟨g9, j, none⟩ = false := fun o j => (ho9.alloc o).frozenAt j
            have fz2 : ∀ o u j, ((wr.alloc o).setCell ⟨g9, p * 3 + 1, none⟩ u).frozen? ⟨g9, j, none⟩ = false := fun o u j => ((ho9.alloc o).stored (p * 3 + 1) u).1.frozenAt j
            have HO9 := Lib.hid ho9
            clear ho9
            go_wp2_with (go_at_call 8; refine (point_exact _ _).mono ?_; rintro e w' ⟨rfl, rfl⟩)
            go_roundw
            case rel =>
              refine ⟨p + 1, by omega, by go_num, ?_, ?_⟩
              · have r1 := ((HO9.out.alloc (.cells #[.int .u64 (num x), .int .u64 (num x)] 36)).stored (p * 3 + 1) (.int .u64 (num x))).1
                have r2 := (r1.stored (p * 3 + 1 + 1) (.int .u64 (num x))).1
                have e := acells_set hx
                rw [show p * 3 + 2 = p * 3 + 1 + 1 by omega] at e
                rw [e] at r2
                exact r2
              · exact ((HBP.out.alloc HBP.out.size _).setCell hg9 _).setCell hg9 _
            case measure => simp [intOf]; omega
          · have e9 : p = m := by omega
            subst e9
            have HO9 := Lib.hid ho9
            clear ho9
            go_upto_region 15 with fail
            generalize hn : es.length = n at *
            go_cut [15] (fun s13 wx => ∃ q : Nat, s13 = .int .i64 q ∧ wx = wr)
            case first =>
              by_cases hbig : n = 9223372036854775807
              · subst hbig
                go_wp2_with fail
                · rename_i h; exact absurd h (by decide +kernel)
                · go_meet
                  exact ⟨(max 0 at' % wrap64 9223372036854775808).toNat, by rw [Int.toNat_of_nonneg (Int.emod_nonneg _ (by decide +kernel))], rfl⟩
              · have hlt : (n : Int) ≤ 9223372036854775806 := by unfold maxLen at hel; omega
                go_wp2_with fail
                go_meet
                exact ⟨(max 0 at' % ((n : Int) + 1)).toNat, by rw [Int.toNat_of_nonneg (Int.emod_nonneg _ (by omega))], rfl⟩
            case rest =>
              obtain ⟨q, rfl, rfl⟩ := hcut
              have l9 := HL.out
              have r9 := HO9.out
              rw [← l9, mix_all] at r9
              have R13 := Lib.hid (rows_a (ts := us.map pt) (by rw [List.length_map]; exact r9))
              have r10 := own_bel HA.out HBP.out
              rw [← l9] at r10
              have R10 := Lib.hid (rows_a r10)
              have F2 := Lib.hid (HF1.out.below (Bel.then HBR.out (Bel.then HB2.out HBP.out)))
              have HP1 : Hid (∀ v ∈ us.map pt, U v.lo ∧ U v.hi) := Lib.hid (by
                intro v hv
                obtain ⟨x, hx, rfl⟩ := List.mem_map.1 hv
                have := Go.Abs.Sy.num_U (HU.out x hx)
                exact ⟨this, this⟩)
              have HP2 : Hid (∀ v ∈ us, U v.lo ∧ U v.hi) := Lib.hid fun v hv => ⟨(HU.out v hv).1, (HU.out v hv).2.1⟩
              have hall := Go.Abs.Sy.wider_all HES.out HU.out HG2.out q
              have N1 : Hid (us.length ≤ 1000) := Lib.hid (by have := HM.out; omega)
              have N2 : Hid ((us.map pt).length ≤ 1000) := Lib.hid (by rw [List.length_map]; exact N1.out)
              rw [l9] at R13
              clear r9 r10 l9
              go_wp2_with fail
              refine (of_any F2.out R10.out (Nat.le_trans HFL.out (by decide)) N1.out HES.out HP2.out q).mono ?_
              rintro e w3 ⟨rfl, hb3⟩
              have HB3 := Lib.hid hb3
              clear hb3
              generalize ofN fs (renvN us) q = O1 at *
              obtain ⟨⟨wl, wh⟩, wb⟩ := O1
              go_wp2_with fail
              have F3 := F2.out.below (Bel.new HB3.out (.cells #[.int .u64 wl, .int .u64 wh] 36))
              have R3 := R13.out.below (Bel.new HB3.out (.cells #[.int .u64 wl, .int .u64 wh] 36))
              refine (of_any F3 R3 (Nat.le_trans HFL.out (by decide)) N2.out HES.out HP1.out q).mono ?_
              rintro e w4 ⟨rfl, hb4⟩
              generalize ofN fs (renvN (us.map pt)) q = O2 at *
              obtain ⟨⟨tl, th⟩, tb⟩ := O2
              have g0 : w4.cell? ⟨w3.heap.size, 0, none⟩ = some (.int .u64 wl) := (Below.cell hb4 (p := ⟨w3.heap.size, 0, none⟩) (by simp)).trans (by simp)
              have g1 : w4.cell? ⟨w3.heap.size, 1, none⟩ = some (.int .u64 wh) := (Below.cell hb4 (p := ⟨w3.heap.size, 1, none⟩) (by simp)).trans (by simp)
              have z4 : w3.heap.size < w4.heap.size := by have := hb4.size; simp at this; omega
              have HB4 := Lib.hid hb4
              clear hb4 F3 R3
              go_wp2_with fail
              refine (wakes_any _).mono ?_
              rintro e w5 ⟨rfl, hb5⟩
              have z5 : w4.heap.size < w5.heap.size := by have := hb5.size; simp at this; omega
              have p0 : w5.cell? ⟨w3.heap.size, 0, none⟩ = some (.int .u64 wl) := (Below.cell hb5 (p := ⟨w3.heap.size, 0, none⟩) (by simp; omega)).trans (by rw [World.cell?_alloc_lt _ _ _ z4]; exact g0)
              have p1 : w5.cell? ⟨w3.heap.size, 1, none⟩ = some (.int .u64 wh) := (Below.cell hb5 (p := ⟨w3.heap.size, 1, none⟩) (by simp; omega)).trans (by rw [World.cell?_alloc_lt _ _ _ z4]; exact g1)
              have p2 : w5.cell? ⟨w4.heap.size, 0, none⟩ = some (.int .u64 tl) := (Below.cell hb5 (p := ⟨w4.heap.size, 0, none⟩) (by simp)).trans (by simp)
              have p3 : w5.cell? ⟨w4.heap.size, 1, none⟩ = some (.int .u64 th) := (Below.cell hb5 (p := ⟨w4.heap.size, 1, none⟩) (by simp)).trans (by simp)
              have HB5 := Lib.hid hb5
              clear hb5 g0 g1
              cases tb
              · go_wp2_with fail
                go_ret
                exact ⟨rfl, Bel.then HB1.out (Bel.then HBR.out (Bel.then HB2.out (Bel.then HBP.out (Bel.then (Bel.new HB3.out _) (Bel.then (Bel.new HB4.out _) HB5.out)))))⟩
              · obtain ⟨rfl, ⟨i1, i2⟩, i3, i4⟩ := hall rfl
                have b1 : has ⟨wl, wh⟩ tl = true := by
                  simp only at i1 i2
                  simp [has, i1, i2]
                have b2 : has ⟨wl, wh⟩ th = true := by
                  simp only at i3 i4
                  simp [has, i3, i4]
                go_wp2_with fail
                refine (has_any ⟨wl, wh⟩ tl _).mono ?_
                rintro e w6 ⟨rfl, hb6⟩
                rw [b1]
                have q0 : w6.cell? ⟨w3.heap.size, 0, none⟩ = some (.int .u64 wl) := (Below.cell hb6 (p := ⟨w3.heap.size, 0, none⟩) (by show w3.heap.size < w5.heap.size; omega)).trans p0
                have q1 : w6.cell? ⟨w3.heap.size, 1, none⟩ = some (.int .u64 wh) := (Below.cell hb6 (p := ⟨w3.heap.size, 1, none⟩) (by show w3.heap.size < w5.heap.size; omega)).trans p1
                have q3 : w6.cell? ⟨w4.heap.size, 1, none⟩ = some (.int .u64 th) := (Below.cell hb6 (p := ⟨w4.heap.size, 1, none⟩) (by show w4.heap.size < w5.heap.size; omega)).trans p3
                have HB6 := Lib.hid hb6
                clear hb6 p0 p1 p2 p3
                go_wp2_with fail
                refine (has_any ⟨wl, wh⟩ th _).mono ?_
                rintro e w7 ⟨rfl, hb7⟩
                rw [b2]
                have HB7 := Lib.hid hb7
                clear hb7
                go_wp2_with fail
                go_ret
                exact ⟨rfl, Bel.then HB1.out (Bel.then HBR.out (Bel.then HB2.out (Bel.then HBP.out (Bel.then (Bel.new HB3.out _) (Bel.then (Bel.new HB4.out _) (Bel.then HB5.out (Bel.then HB6.out HB7.out)))))))⟩
end Go.Proofs.Ytadigpaglappbaa.WiderX
