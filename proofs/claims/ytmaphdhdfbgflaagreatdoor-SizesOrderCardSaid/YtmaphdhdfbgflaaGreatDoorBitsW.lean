/- The walks of the reference of layer 1 over rows of bits: Bits, plus, Number. -/
import Derived.Test.YtmaphdhdfbgflaaGreatDoorWordW
import Derived.Test.YtmaphdhdfbgflaaGreatDoorBitsN
import Derived.Deep.DeepCutAuto
set_option linter.unusedVariables false
namespace Go.Proofs.YtmaphdhdfbgflaaGreatDoor.BitsW
open Go.RowKit Go.Proofs.YtmaphdhdfbgflaaGreatDoor.Word Go.Proofs.YtmaphdhdfbgflaaGreatDoor.WordW Go.Proofs.YtmaphdhdfbgflaaGreatDoor.BitsN

theorem info_int : (Tryz.prog.info? 3).map (fun i => (i.zero, i.size, i.bytes)) = some (some (.int .i64 0), 1, 8) := by kernel_rfl
def ints (xs : List Int) : List Value := xs.map (Value.int .i64)
/-- Block g begins with the numbers xs. -/
def Cells (w : World) (g : Nat) (xs : List Int) : Prop := ∀ i, i < xs.length → w.cell? ⟨g, i, none⟩ = some (.int .i64 (xs.getD i 0))
theorem cells_of_owns {w : World} {base g n cap : Nat} {xs : List Int} (h : w.ownsRow base 3 1 (.slice (some ⟨g, 0, none⟩) n cap) n (ints xs)) : Cells w g xs := by
  intro i hi
  have hl : xs.length = n := by have := h.1; simp [ints] at this; exact this
  rw [h.cellAt i (by omega)]
  simp [ints, List.getD, hi]
theorem Cells.later {w w' : World} {g : Nat} {xs : List Int} {B : Nat} (h : Cells w g xs) (hb : Below B w w') (hg : g < B) : Cells w' g xs := fun i hi => (hb.cell (by exact hg)).trans (h i hi)
theorem getD_ints (xs : List Int) (i : Nat) (h : i < xs.length) : (ints xs)[i]? = some (.int .i64 (xs.getD i 0)) := by simp [ints, List.getD, h]
theorem set_ints (xs : List Int) (i : Nat) (x : Int) : (ints xs).set i (.int .i64 x) = ints (xs.set i x) := by simp [ints, List.map_set]

def BitsSaid (a : Int) (w : World) (e : Ending) (w' : World) : Prop :=
  ∃ g, e = .returned (.slice (some ⟨g, 0, none⟩) 64 64) ∧ Cells w' g (bitsOf a.toNat 64) ∧ w.heap.size ≤ g ∧ g < w'.heap.size ∧ Below w.heap.size w w'

theorem made_ints (n : Nat) : (madeCells #[Value.int .i64 0] n).toList = ints (List.replicate n 0) := by
  simp [madeCells, ints, Nat.mod_one, List.map_const']

set_option maxRecDepth 100000 in
set_option maxHeartbeats 400000 in
theorem bits_any (a : Int) (w : World) (ha : U a) : Calls Tryz.prog 27 #[.int .u64 a] w (BitsSaid a w) := by
  obtain ⟨i0, hi, hz0, hz1, hz2⟩ := info_parts info_int
  go_enter Tryz.func27, Tryz.ntmps27
  go_wp2_with (at_make; refine wpList_make_full _ rfl _ _ 74 rfl w.heap.size 3 i0 (.int .i64 0) 1 Tryz.underlying74 hi hz0 hz1 _ _ _ _ 64 rfl rfl (by decide) (by decide) ?b2 ?b3 (Nat.le_refl _) ?_)
  case b2 => rw [hz2]; omega
  case b3 => unfold maxLen; omega
  intro w0 hown0 hgrow0
  rw [made_ints] at hown0
  have hb0 : Below w.heap.size w w0 := (Below.refl _ _).grown hgrow0 (Nat.le_refl _) (fun k h => by cases h)
  have H0 := Lib.hid hown0
  clear hown0 hgrow0
  obtain ⟨a, rfl⟩ := Int.eq_ofNat_of_zero_le ha.lo
  have ha1 : a < 18446744073709551616 := by have := ha.hi; omega
  have hz : a / 2 ^ 64 = 0 := Nat.div_eq_of_lt (by omega)
  have HZ := Lib.hid hz
  clear hz
  go_wp2
  go_loopw [0, 4] (fun x i wr => ∃ (k : Nat) (os : List Int), k ≤ 64 ∧ i = .int .i64 k ∧ x = .int .u64 ((a / 2 ^ k : Nat) : Int) ∧ os.length = 64 ∧ os.take k = bitsOf a k ∧
      wr.ownsRow w.heap.size 3 1 (.slice (some ⟨w.heap.size, 0, none⟩) 64 64) 64 (ints os) ∧ Below w.heap.size w wr)
    (fun _ i _ => 64 - (intOf i).toNat)
  case atStart => exact ⟨0, List.replicate 64 0, by omega, rfl, by simp, by simp, rfl, H0.out, hb0⟩
  case round =>
    obtain ⟨k, os, hk, rfl, rfl, hlen, htake, hown, hbel⟩ := hrel
    by_cases hlt : k < 64
    · have hcell : wr.cell? ⟨w.heap.size, k, none⟩ = some (.int .i64 (os.getD k 0)) := by rw [hown.cellAt k (by omega), getD_ints _ _ (by omega)]
      have hfz := hown.frozenAt k
      have hst := Lib.hid (hown.stored k (.int .i64 (((a / 2 ^ k : Nat) : Int) % 2)))
      have HT := Lib.hid htake
      have HL := Lib.hid hlen
      have hc0 : ((a / 2 ^ k : Nat) : Int) ≤ 18446744073709551615 := by have := Nat.div_le_self a (2 ^ k); omega
      have hc1 : (0 : Int) ≤ ((a / 2 ^ k : Nat) : Int) := Int.natCast_nonneg _
      have hd2 : a / 2 ^ (k + 1) = a / 2 ^ k / 2 := by rw [Nat.pow_succ, Nat.div_div_eq_div_mul]
      have HD := Lib.hid hd2
      clear hown hlen htake hd2
      generalize hq : a / 2 ^ k = q at *
      have HQ := Lib.hid hq
      clear hq
      go_wp2
      go_roundw
      case rel =>
        refine ⟨k + 1, os.set k ((q : Int) % 2), by omega, by go_num, by rw [HD.out]; rfl, by rw [List.length_set]; exact HL.out, ?_, ?_, hbel.setCell (by exact Nat.le_refl _) _⟩
        · rw [take_set_succ _ _ _ (by rw [HL.out]; omega), HT.out, bitsOf_succ, HQ.out]; rfl
        · rw [← set_ints]; exact hst.out.1
      case measure => simp [intOf]; omega
    · have : k = 64 := by omega
      subst this
      go_wp2
      go_ret
      refine ⟨_, rfl, ?_, Nat.le_refl _, ?_, hbel⟩
      · have := cells_of_owns hown
        rw [List.take_of_length_le (by omega)] at htake
        rw [htake] at this
        exact this
      · exact (hown.lt _ rfl).2

def PlusSaid (xs ys : List Int) (w : World) (e : Ending) (w' : World) : Prop :=
  ∃ g zs, e = .returned (.slice (some ⟨g, 0, none⟩) zs.length zs.length) ∧ Cells w' g zs ∧ IsBits zs ∧ val zs = val xs + val ys ∧ zs.length = max xs.length ys.length + 1 ∧
    w.heap.size ≤ g ∧ g < w'.heap.size ∧ Below w.heap.size w w'

/-- The sum's row after k rounds. -/
structure PlusRow (xs ys os : List Int) (n k : Nat) : Prop where
  len : os.length = n + 1
  bits : IsBits os
  sum : val (os.take (k + 1)) = val (xs.take k) + val (ys.take k)

theorem PlusRow.start (xs ys : List Int) (n : Nat) : PlusRow xs ys (List.replicate (n + 1) 0) n 0 :=
  ⟨by simp, fun x hx => .inl (List.eq_of_mem_replicate hx), by simp [val, List.take_replicate, List.replicate]⟩
theorem PlusRow.step {xs ys os : List Int} {n k : Nat} (h : PlusRow xs ys os n k) (hk : k < n) (hx : IsBits xs) (hy : IsBits ys) (s : Int) (hs : s = os.getD k 0 + xs.getD k 0 + ys.getD k 0) :
    PlusRow xs ys ((os.set k (s % 2)).set (k + 1) (s / 2)) n (k + 1) := by
  have h1 := bit_getD h.bits k
  have h2 := bit_getD hx k
  have h3 := bit_getD hy k
  exact ⟨by simp [h.len], isBits_set (isBits_set h.bits _ (by omega)) _ (by omega), plus_step os xs ys k (by have := h.len; omega) h.sum s hs (by omega)⟩

set_option maxRecDepth 100000 in
set_option maxHeartbeats 1000000 in
theorem plus_any (xs ys : List Int) (g h ca cb : Nat) (w : World) (hx : IsBits xs) (hy : IsBits ys) (lx : xs.length ≤ 1000000) (ly : ys.length ≤ 1000000) (cx : Cells w g xs) (cy : Cells w h ys)
    (hg : g < w.heap.size) (hh : h < w.heap.size) :
    Calls Tryz.prog 28 #[.slice (some ⟨g, 0, none⟩) xs.length ca, .slice (some ⟨h, 0, none⟩) ys.length cb] w (PlusSaid xs ys w) := by
  obtain ⟨i0, hi, hz0, hz1, hz2⟩ := info_parts info_int
  obtain ⟨la, hla⟩ : ∃ n, n = xs.length := ⟨_, rfl⟩
  obtain ⟨lb, hlb⟩ : ∃ n, n = ys.length := ⟨_, rfl⟩
  rw [← hla] at lx
  rw [← hlb] at ly
  rw [← hla, ← hlb]
  have HA := Lib.hid hla
  have HB := Lib.hid hlb
  have CX := Lib.hid cx
  have CY := Lib.hid cy
  clear hla hlb cx cy
  go_enter Tryz.func28, Tryz.ntmps28
  go_upto_if 14 with fail
  go_cut [5] (fun s5 wx => wx = w ∧ ∃ n : Nat, s5 = .int .i64 n ∧ la ≤ n ∧ lb ≤ n ∧ (n = la ∨ n = lb))
  case first =>
    by_cases hc : la < lb
    all_goals
      go_wp2
      go_meet
    · exact ⟨rfl, lb, rfl, by omega, by omega, .inr rfl⟩
    · exact ⟨rfl, la, rfl, by omega, by omega, .inl rfl⟩
  case rest =>
    obtain ⟨rfl, n, rfl, n1, n2, n3⟩ := hcut
    have N3 := Lib.hid n3
    have n4 : n ≤ 1000000 := by omega
    clear n3
    go_wp2_with (at_make; refine wpList_make_full _ rfl _ _ 74 rfl wc.heap.size 3 i0 (.int .i64 0) 1 Tryz.underlying74 hi hz0 hz1 _ _ _ _ (n + 1) rfl rfl (by omega) (by omega) ?b2 ?b3 (Nat.le_refl _) ?_)
    case b2 => rw [hz2]; omega
    case b3 => unfold maxLen; omega
    intro w0 hown0 hgrow0
    rw [made_ints] at hown0
    have hb0 : Below wc.heap.size wc w0 := (Below.refl _ _).grown hgrow0 (Nat.le_refl _) (fun k h => by cases h)
    have H0 := Lib.hid hown0
    clear hown0 hgrow0
    go_wp2
    go_loopw [7] (fun i wr => ∃ (k : Nat) (os : List Int), k ≤ n ∧ i = .int .i64 k ∧ PlusRow xs ys os n k ∧
        wr.ownsRow wc.heap.size 3 1 (.slice (some ⟨wc.heap.size, 0, none⟩) (n + 1) (n + 1)) (n + 1) (ints os) ∧ Below wc.heap.size wc wr)
      (fun i _ => n - (intOf i).toNat)
    case atStart => exact ⟨0, _, by omega, rfl, PlusRow.start xs ys n, H0.out, hb0⟩
    case round =>
      obtain ⟨k, os, hk, rfl, hrow, hown, hbel⟩ := hrel
      by_cases hlt : k < n
      · obtain ⟨x, hxv⟩ : ∃ x, x = xs.getD k 0 := ⟨_, rfl⟩
        obtain ⟨y, hyv⟩ : ∃ x, x = ys.getD k 0 := ⟨_, rfl⟩
        obtain ⟨o, hov⟩ : ∃ x, x = os.getD k 0 := ⟨_, rfl⟩
        have hstep := hrow.step hlt hx hy (o + x + y) (by rw [hxv, hyv, hov])
        have bx := bit_getD hx k
        have by_ := bit_getD hy k
        have bo := bit_getD hrow.bits k
        rw [← hxv] at bx
        rw [← hyv] at by_
        rw [← hov] at bo
        have x0 : 0 ≤ x ∧ x ≤ 1 := by omega
        have y0 : 0 ≤ y ∧ y ≤ 1 := by omega
        have o0 : 0 ≤ o ∧ o ≤ 1 := by omega
        clear bx by_ bo
        have hlen := hrow.len
        have hcell : wr.cell? ⟨wc.heap.size, k, none⟩ = some (.int .i64 o) := by rw [hown.cellAt k (by omega), getD_ints _ _ (by omega), hov]
        have hcell2 : wr.cell? ⟨wc.heap.size, k + 1, none⟩ = some (.int .i64 (os.getD (k + 1) 0)) := by rw [hown.cellAt (k + 1) (by omega), getD_ints _ _ (by omega)]
        have hfz := hown.frozenAt k
        have hfz2 := hown.frozenAt (k + 1)
        have hst := ((hown.stored k (.int .i64 ((o + x + y) % 2))).1.stored (k + 1) (.int .i64 ((o + x + y) / 2))).1
        rw [set_ints, set_ints] at hst
        generalize os.getD (k + 1) 0 = o2 at *
        have hbel2 := (hbel.setCell (p := ⟨wc.heap.size, k, none⟩) (Nat.le_refl _) (.int .i64 ((o + x + y) % 2))).setCell (p := ⟨wc.heap.size, k + 1, none⟩) (Nat.le_refl _) (.int .i64 ((o + x + y) / 2))
        have HST := Lib.hid hst
        have HSTEP := Lib.hid hstep
        have HBEL := Lib.hid hbel2
        have hX : Hid (if k < la then wr.cell? ⟨g, k, none⟩ = some (.int .i64 x) else x = 0) := by
          refine Lib.hid ?_
          rw [HA.out]
          split
          · rename_i h1; rw [hxv]; exact (hbel.cell (by exact hg)).trans (CX.out k h1)
          · rename_i h1; rw [hxv]; simp [List.getD, h1]
        have hY : Hid (if k < lb then wr.cell? ⟨h, k, none⟩ = some (.int .i64 y) else y = 0) := by
          refine Lib.hid ?_
          rw [HB.out]
          split
          · rename_i h1; rw [hyv]; exact (hbel.cell (by exact hh)).trans (CY.out k h1)
          · rename_i h1; rw [hyv]; simp [List.getD, h1]
        clear hst hstep hbel2 hown hrow hxv hyv hov hlen hbel
        have hX2 := hX.out
        have hY2 := hY.out
        clear hX hY
        by_cases ha : k < la
        all_goals
          by_cases hb : k < lb
        all_goals
          first
          | rw [if_pos ha] at hX2
          | (rw [if_neg ha] at hX2; subst hX2)
        all_goals
          first
          | rw [if_pos hb] at hY2
          | (rw [if_neg hb] at hY2; subst hY2)
        all_goals
          go_wp2
          go_roundw
          case rel => exact ⟨k + 1, _, by omega, by go_num, by simpa using HSTEP.out, by simpa using HST.out, by simpa using HBEL.out⟩
          case measure => simp [intOf]; omega
      · have : k = n := by omega
        subst this
        have H1 := Lib.hid hrow
        have H2 := Lib.hid hown
        clear hrow hown
        go_wp2
        go_ret
        have hlen := H1.out.len
        have hs := H1.out.sum
        rw [List.take_of_length_le (by omega), List.take_of_length_le (by have := HA.out; omega), List.take_of_length_le (by have := HB.out; omega)] at hs
        refine ⟨wc.heap.size, os, ?_, cells_of_owns H2.out, H1.out.bits, hs, ?_, Nat.le_refl _, (H2.out.lt _ rfl).2, hbel⟩
        · rw [hlen]; rfl
        · rw [hlen, ← HA.out, ← HB.out]; have := N3.out; omega

set_option maxRecDepth 100000 in
set_option maxHeartbeats 1000000 in
theorem number_any (xs : List Int) (g ca : Nat) (w : World) (hx : IsBits xs) (lx : xs.length ≤ 1000000) (cx : Cells w g xs) :
    Calls Tryz.prog 29 #[.slice (some ⟨g, 0, none⟩) xs.length ca] w (ans (num xs) w) := by
  obtain ⟨la, hla⟩ : ∃ n, n = xs.length := ⟨_, rfl⟩
  rw [← hla] at lx
  rw [← hla]
  have HA := Lib.hid hla
  have CX := Lib.hid cx
  clear hla cx
  go_enter Tryz.func29, Tryz.ntmps29
  go_wp2
  go_loop [4, 5] (fun n i => ∃ (j : Nat) (v : Int), j ≤ la ∧ i = .int .i64 ((j : Int) - 1) ∧ n = .int .u64 v ∧ v = val (xs.drop j) ∧ v < cap j) (fun _ i => (intOf i + 1).toNat)
  case atStart => exact ⟨la, 0, by omega, rfl, rfl, by rw [HA.out]; simp [val], pow_pos' _⟩
  case round =>
    obtain ⟨j, v, hj, rfl, rfl, hv, hc⟩ := hrel
    have v0 : 0 ≤ v := by rw [hv]; exact val_nonneg (isBits_drop hx _)
    by_cases h0 : j = 0
    · subst h0
      have HF := Lib.hid (num_end hv hc)
      clear hv hc
      go_wp2
      go_ret2
      exact ans_mk HF.out
    · obtain ⟨m, rfl⟩ : ∃ m, j = m + 1 := ⟨j - 1, by omega⟩
      rw [show (((m + 1 : Nat) : Int) - 1) = (m : Int) by omega]
      have hm : m < xs.length := by have := HA.out; omega
      have hcell : w.cell? ⟨g, m, none⟩ = some (.int .i64 (xs.getD m 0)) := CX.out m hm
      have hb := bit_getD hx m
      have hd := drop_eq xs m hm
      rw [← hv] at hd
      have hout := fun h63 h1 => num_out hx m hm h63 h1
      generalize xs.getD m 0 = x at *
      have hc1 := cap_succ_le m
      have hc2 : v + v ≤ 18446744073709551614 := by omega
      have hk1 : 63 < m → v = 0 := fun h => by have := cap_one (m + 1) (by omega); omega
      have hk2 : m < 64 → v + v + x < cap m := fun h => by have := cap_step m h; omega
      have hk3 : 63 < m → (0 : Int) < cap m := fun h => by have := cap_one m (by omega); omega
      have HD := Lib.hid hd
      have HO := Lib.hid hout
      have K1 := Lib.hid hk1
      have K2 := Lib.hid hk2
      have K3 := Lib.hid hk3
      clear hd hout hk1 hk2 hk3 hv hc hc1
      by_cases h63 : 63 < m
      · rcases hb with rfl | rfl
        · go_wp2
          go_round
          case rel => exact ⟨m, v, by omega, rfl, rfl, by rw [HD.out, K1.out h63]; rfl, by rw [K1.out h63]; exact K3.out h63⟩
          case measure => simp [intOf]
        · go_wp2
          go_ret2
          exact ans_mk (HO.out h63 (by simp))
      · rcases hb with rfl | rfl
        all_goals
          go_wp2
          go_round
          case rel => exact ⟨m, _, by omega, rfl, rfl, by rw [HD.out]; omega, by have := K2.out (by omega); omega⟩
          case measure => simp [intOf]
end Go.Proofs.YtmaphdhdfbgflaaGreatDoor.BitsW
