/- The law BoundsPoint, walked: the law itself. -/
import Derived.Test.YtadigpaglappbaaPointW
import Derived.Test.YtadigpaglappbaaHoldsS
set_option linter.unusedVariables false
namespace Go.Proofs.Ytadigpaglappbaa.PointX
open Go.Sort Go.RowKit Go.Proofs.Ytadigpaglappbaa.Word Go.Proofs.Ytadigpaglappbaa.WordW Go.Proofs.Ytadigpaglappbaa.BoundsN Go.Proofs.Ytadigpaglappbaa.BoundsW Go.Proofs.Ytadigpaglappbaa.Bounds2T Go.Proofs.Ytadigpaglappbaa.Bounds3T Go.Proofs.Ytadigpaglappbaa.Mem Go.Proofs.Ytadigpaglappbaa.RegHead Go.Proofs.Ytadigpaglappbaa.VarsW Go.Proofs.Ytadigpaglappbaa.PointW
open Go.Abs.Sy (EX VU ExprsAt FileAt RowsAt fileN trunc num pt arow erow evalN ofN renvN envN files_any of_any eval_any)

theorem rows_a {w : World} {B : Nat} {v : Value} {ts : List PointW.V} (h : w.ownsRow B 41 3 v ts.length (acells ts)) : RowsAt w v 3 (ts.map arow) := by
  refine rows_own (rows := ts.map arow) (by rw [List.length_map]; exact h) fun i r hi => ?_
  rw [List.getElem?_map] at hi
  cases hx : ts[i]? with
  | none => rw [hx] at hi; cases hi
  | some x =>
    rw [hx] at hi
    cases hi
    obtain ⟨a, b, c⟩ := acells_at hx
    refine ⟨rfl, fun j u hj => ?_⟩
    match j, hj with
    | 0, hj => cases hj; exact a
    | 1, hj => cases hj; exact b
    | 2, hj => cases hj; exact c
theorem rows_e {w : World} {B : Nat} {v : Value} {ts : List PointW.V} (h : w.ownsRow B 39 2 v ts.length (ecells ts)) : RowsAt w v 2 (ts.map erow) := by
  refine rows_own (rows := ts.map erow) (by rw [List.length_map]; exact h) fun i r hi => ?_
  rw [List.getElem?_map] at hi
  cases hx : ts[i]? with
  | none => rw [hx] at hi; cases hi
  | some x =>
    rw [hx] at hi
    cases hi
    refine ⟨rfl, fun j u hj => ?_⟩
    match j, hj with
    | 0, hj => cases hj; exact ecells_at0 hx
    | 1, hj => cases hj; exact ecells_at hx

set_option maxRecDepth 100000 in
set_option maxHeartbeats 4000000 in
theorem point_any {w : World} {lv vv : Value} (at' : Int) {es : List EX} {vs : List PointW.V} (hl : ExprsAt w lv es) (hv : Sl w vv vs.length 4 (vcell vs)) (hes : ∀ x ∈ es, U x.n) (hvs : ∀ v ∈ vs, VU v) (hel : es.length ≤ maxLen) :
    Calls Try.prog 3 #[lv, .int .i64 at', vv] w (Yes w) := by
  obtain ⟨oa, cap, rfl⟩ : ∃ oa cap, lv = .slice oa es.length cap := by
    rcases hl with ⟨rfl, rfl⟩ | ⟨a, cap, rfl, _⟩
    · exact ⟨_, _, rfl⟩
    · exact ⟨_, _, rfl⟩
  have HF := Lib.hid (files_any hl)
  have HV := Lib.hid hv
  have HU : Hid (∀ v ∈ vs.take (min vs.length 20), VU v) := Lib.hid fun v h => hvs v (List.mem_of_mem_take h)
  have HL : Hid ((vs.take (min vs.length 20)).length = min vs.length 20) := Lib.hid (by rw [List.length_take]; omega)
  have HM : Hid (min vs.length 20 ≤ 20) := Lib.hid (by omega)
  have HES := Lib.hid (Go.Abs.Sy.file_U hes)
  have HFL := Lib.hid (Go.Abs.Sy.file_len es)
  generalize fileN es = fs at *
  obtain ⟨va, vcap, rfl, _, _, _, _⟩ := hv
  clear hl hes hvs
  go_enter Try.func3, Try.ntmps3
  go_wp2_with fail
  refine HF.out.mono ?_
  rintro e w1 ⟨fv, gv, rfl, hf1, hb1⟩
  have HF1 := Lib.hid hf1
  have HB1 := Lib.hid hb1
  clear hf1 hb1 HF
  go_wp2_with fail
  refine (vars_any vs _ w1 (Sl.below HV.out HB1.out)).mono ?_
  rintro e w2 ⟨ra, rb, rc, rfl, hb2, oa2, oc2⟩
  clear HV
  generalize hvl : vs.length = vl at *
  generalize hus : vs.take (min vl 20) = us at *
  generalize hm : min vl 20 = m at *
  obtain ⟨a9, cap9, rfl, s9⟩ := own_shape oa2
  obtain ⟨a11, cap11, rfl, s11⟩ := own_shape oc2
  have HA := Lib.hid oa2
  have HC := Lib.hid oc2
  have HB2 := Lib.hid hb2
  have S9 := Lib.hid s9
  have S11 := Lib.hid s11
  have M20 := HM.out
  clear oa2 oc2 hb2 s9 s11
  go_wp2_with fail
  go_loopw [31] (fun i wr => ∃ k : Nat, k ≤ m ∧ i = .int .i64 k ∧ wr.ownsRow w1.heap.size 41 3 (.slice a9 m cap9) m (acells (mixL us k)) ∧ wr.ownsRow w1.heap.size 39 2 (.slice a11 m cap11) m (ecells us) ∧ Bel w1 wr) (fun i _ => m - (intOf i).toNat)
  case atStart => exact ⟨0, by omega, rfl, HA.out, HC.out, HB2.out⟩
  case round =>
    obtain ⟨k, hk, rfl, ho9, ho11, hbr⟩ := hrel
    have HBR := Lib.hid hbr
    clear hbr
    by_cases hlt : k < m
    · obtain ⟨g9, rfl, hg9, _⟩ := S9.out (by omega)
      obtain ⟨g11, rfl, hg11, _⟩ := S11.out (by omega)
      have hkl : k < us.length := by have := HL.out; omega
      obtain ⟨x, hx⟩ : ∃ x, us[k]? = some x := ⟨us[k], List.getElem?_eq_getElem hkl⟩
      have c2 := (ho11.cellAt (k * 2 + 1) (by omega)).trans (ecells_at hx)
      have hln := ho9.1
      obtain ⟨y1, hy1⟩ : ∃ u, (acells (mixL us k))[k * 3 + 1]? = some u := ⟨_, List.getElem?_eq_getElem (by omega)⟩
      obtain ⟨y2, hy2⟩ : ∃ u, (acells (mixL us k))[k * 3 + 1 + 1]? = some u := ⟨_, List.getElem?_eq_getElem (by omega)⟩
      have d1 : ∀ o, (wr.alloc o).cell? ⟨g9, k * 3 + 1, none⟩ = some y1 := fun o => ((ho9.alloc o).cellAt (k * 3 + 1) (by omega)).trans hy1
      have d2 : ∀ o, (wr.alloc o).cell? ⟨g9, k * 3 + 1 + 1, none⟩ = some y2 := fun o => ((ho9.alloc o).cellAt (k * 3 + 1 + 1) (by omega)).trans hy2
      have fz : ∀ o j, (wr.alloc o).frozen? ⟨g9, j, none⟩ = false := fun o j => (ho9.alloc o).frozenAt j
      have fz2 : ∀ o u j, ((wr.alloc o).setCell ⟨g9, k * 3 + 1, none⟩ u).frozen? ⟨g9, j, none⟩ = false := fun o u j => ((ho9.alloc o).stored (k * 3 + 1) u).1.frozenAt j
      have HO9 := Lib.hid ho9
      have HO11 := Lib.hid ho11
      clear ho9 ho11
      go_wp2_with (go_at_call 8; refine (point_exact _ _).mono ?_; rintro e w' ⟨rfl, rfl⟩)
      go_roundw
      case rel =>
        refine ⟨k + 1, by omega, by go_num, ?_, ?_, ?_⟩
        · have r1 := ((HO9.out.alloc (.cells #[.int .u64 (num x), .int .u64 (num x)] 36)).stored (k * 3 + 1) (.int .u64 (num x))).1
          have r2 := (r1.stored (k * 3 + 1 + 1) (.int .u64 (num x))).1
          have e := acells_set hx
          rw [show k * 3 + 2 = k * 3 + 1 + 1 by omega] at e
          rw [e] at r2
          exact r2
        · have r0 := HO9.out.alloc (.cells #[.int .u64 (num x), .int .u64 (num x)] 36)
          have r1 := r0.stored (k * 3 + 1) (.int .u64 (num x))
          have r2 := r1.1.stored (k * 3 + 1 + 1) (.int .u64 (num x))
          have q0 := HO11.out.alloc (.cells #[.int .u64 (num x), .int .u64 (num x)] 36)
          have q1 := q0.kept r1.2 (own_ne q0 r0 (by decide))
          exact q1.kept r2.2 (own_ne q1 r1.1 (by decide))
        · exact ((HBR.out.alloc HBR.out.size _).setCell hg9 _).setCell hg9 _
      case measure => simp [intOf]; omega
    · have e9 : k = m := by omega
      subst e9
      have X1 := Lib.hid (own_ne ho9 ho11 (by decide))
      have HO9 := Lib.hid ho9
      have HO11 := Lib.hid ho11
      clear ho9 ho11
      go_upto_region 8 with fail
      generalize hn : es.length = n at *
      go_cut [13] (fun s13 wx => ∃ q : Nat, s13 = .int .i64 q ∧ wx = wr)
      case first =>
        by_cases hbig : n = 9223372036854775807
        · subst hbig
          go_wp2_with fail
          · rename_i h; exact absurd h (by decide +kernel)
          · go_meet
            exact ⟨(max 0 at' % wrap64 9223372036854775808).toNat, by rw [Int.toNat_of_nonneg (Int.emod_nonneg _ (by decide +kernel))], rfl⟩
        · have hlt : (n : Int) ≤ 9223372036854775806 := by unfold maxLen at hel; omega
          go_wp2_with fail
          go_meet
          exact ⟨(max 0 at' % ((n : Int) + 1)).toNat, by rw [Int.toNat_of_nonneg (Int.emod_nonneg _ (by omega))], rfl⟩
      case rest =>
        obtain ⟨q, rfl, rfl⟩ := hcut
        have l9 := HL.out
        have r9 := HO9.out
        rw [← l9, mix_all] at r9
        have R9 := Lib.hid (rows_a (ts := us.map pt) (by rw [List.length_map]; exact r9))
        have r11 := HO11.out
        rw [← l9] at r11
        have R11 := Lib.hid (rows_e r11)
        have F2 := Lib.hid (HF1.out.below HBR.out)
        have hvp : ∀ v ∈ us.map pt, U v.lo ∧ U v.hi := by
          intro v hv
          obtain ⟨x, hx, rfl⟩ := List.mem_map.1 hv
          have := Go.Abs.Sy.num_U (HU.out x hx)
          exact ⟨this, this⟩
        have hall := Go.Abs.Sy.point_all HES.out HU.out q
        have HP := Lib.hid hvp
        rw [l9] at R9 R11
        clear r9 r11 hvp l9
        go_wp2_with fail
        refine (of_any F2.out R9.out (Nat.le_trans HFL.out (by decide)) (by have := HL.out; have := HM.out; rw [List.length_map]; omega) HES.out HP.out q).mono ?_
        rintro e w3 ⟨rfl, hb3⟩
        have HB3 := Lib.hid hb3
        clear hb3
        generalize hE : evalN fs (envN us) q = E at *
        obtain ⟨en, ec⟩ := E
        rcases hall with ⟨h0, h1⟩ | ⟨h0, h1⟩
        · rw [h1]
          simp only at h0
          subst h0
          clear h1
          go_wp2_with fail
          have F3 := F2.out.below (Bel.new HB3.out (.cells #[.int .u64 en, .int .u64 en] 36))
          have R3 := R11.out.below (Bel.new HB3.out (.cells #[.int .u64 en, .int .u64 en] 36))
          refine (eval_any F3 R3 (Nat.le_trans HFL.out (by decide)) (by have := HL.out; have := HM.out; omega) HES.out HU.out q).mono ?_
          rintro e w4 ⟨rfl, hb4⟩
          rw [hE]
          have g0 : w4.cell? ⟨w3.heap.size, 0, none⟩ = some (.int .u64 en) := (Below.cell hb4 (p := ⟨w3.heap.size, 0, none⟩) (by simp)).trans (by simp)
          have g1 : w4.cell? ⟨w3.heap.size, 1, none⟩ = some (.int .u64 en) := (Below.cell hb4 (p := ⟨w3.heap.size, 1, none⟩) (by simp)).trans (by simp)
          have HB4 := Lib.hid hb4
          clear hb4 F3 R3
          go_wp2_with fail
          have C0 := cell_grow g0
          have C1 := cell_grow g1
          clear g0 g1
          have cW : ∀ d os, Calls Try.prog 11 #[] (grow (redrawn w4 d) os) fun e w'' => e = .returned (.bool true) ∧ ∃ p : Regrown, w'' = grow (redrawn w4 p.d) p.os := fun d os => Calls.regrown_of (wakes_any _)
          have cP : ∀ d os, Calls Try.prog 8 #[.int .u64 en] (grow (redrawn w4 d) os) fun e w'' => e = .returned (.agg #[.int .u64 en, .int .u64 en]) ∧ ∃ p : Regrown, w'' = grow (redrawn w4 p.d) p.os := fun d os => Calls.regrown_of (point_of en _)
          refine wp_region_quiet_below (by kernel_rfl) (by kernel_rfl) ?_
          repeat (quiet_step (first | exact cW _ _ | exact cP _ _))
          refine wpQuiet_nil ?_
          intro _ hw'
          obtain ⟨⟨dq, osq⟩, hw''⟩ := hw'
          subst hw''
          go_wp2_with fail
          go_ret
          exact ⟨rfl, Bel.then HB1.out (Bel.then HBR.out (Bel.then (Bel.new HB3.out _) (Bel.then HB4.out (below_regrown w4 dq osq))))⟩
        · generalize ofN fs (renvN (us.map pt)) q = O at *
          obtain ⟨⟨lo, hi⟩, b⟩ := O
          simp only at h1 h0
          subst h1
          have h0' : (ec == 0) = false := beq_eq_false_iff_ne.2 h0
          clear h0
          go_wp2_with fail
          have F3 := F2.out.below (Bel.new HB3.out (.cells #[.int .u64 lo, .int .u64 hi] 36))
          have R3 := R11.out.below (Bel.new HB3.out (.cells #[.int .u64 lo, .int .u64 hi] 36))
          refine (eval_any F3 R3 (Nat.le_trans HFL.out (by decide)) (by have := HL.out; have := HM.out; omega) HES.out HU.out q).mono ?_
          rintro e w4 ⟨rfl, hb4⟩
          rw [hE]
          have g0 : w4.cell? ⟨w3.heap.size, 0, none⟩ = some (.int .u64 lo) := (Below.cell hb4 (p := ⟨w3.heap.size, 0, none⟩) (by simp)).trans (by simp)
          have g1 : w4.cell? ⟨w3.heap.size, 1, none⟩ = some (.int .u64 hi) := (Below.cell hb4 (p := ⟨w3.heap.size, 1, none⟩) (by simp)).trans (by simp)
          have HB4 := Lib.hid hb4
          clear hb4 F3 R3
          go_wp2_with fail
          have C0 := cell_grow g0
          have C1 := cell_grow g1
          clear g0 g1
          have cW : ∀ d os, Calls Try.prog 11 #[] (grow (redrawn w4 d) os) fun e w'' => e = .returned (.bool true) ∧ ∃ p : Regrown, w'' = grow (redrawn w4 p.d) p.os := fun d os => Calls.regrown_of (wakes_any _)
          have cP : ∀ d os, Calls Try.prog 8 #[.int .u64 en] (grow (redrawn w4 d) os) fun e w'' => e = .returned (.agg #[.int .u64 en, .int .u64 en]) ∧ ∃ p : Regrown, w'' = grow (redrawn w4 p.d) p.os := fun d os => Calls.regrown_of (point_of en _)
          refine wp_region_quiet_below (by kernel_rfl) (by kernel_rfl) ?_
          repeat (quiet_step (first | exact cW _ _ | exact cP _ _))
          refine wpQuiet_nil ?_
          intro _ hw'
          obtain ⟨⟨dq, osq⟩, hw''⟩ := hw'
          subst hw''
          go_wp2_with fail
          go_ret
          exact ⟨rfl, Bel.then HB1.out (Bel.then HBR.out (Bel.then (Bel.new HB3.out _) (Bel.then HB4.out (below_regrown w4 dq osq))))⟩
end Go.Proofs.Ytadigpaglappbaa.PointX
