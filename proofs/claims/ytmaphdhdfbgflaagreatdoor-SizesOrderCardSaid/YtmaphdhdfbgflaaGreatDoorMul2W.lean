/- The walk of the reference's Mul. -/
import Derived.Test.YtmaphdhdfbgflaaGreatDoorMulW
import Derived.Deep.CutRange
set_option linter.unusedVariables false
namespace Go.Proofs.YtmaphdhdfbgflaaGreatDoor.Mul2W
open Go.RowKit Go.Proofs.YtmaphdhdfbgflaaGreatDoor.Word Go.Proofs.YtmaphdhdfbgflaaGreatDoor.WordW Go.Proofs.YtmaphdhdfbgflaaGreatDoor.BitsN Go.Proofs.YtmaphdhdfbgflaaGreatDoor.BitsW Go.Proofs.YtmaphdhdfbgflaaGreatDoor.MulW

/-- A slice that reads as the numbers xs. -/
def Sl (w : World) (v : Value) (xs : List Int) : Prop := ∃ g c, v = .slice (some ⟨g, 0, none⟩) xs.length c ∧ Cells w g xs ∧ g < w.heap.size
theorem Sl.later {w w' : World} {v : Value} {xs : List Int} (h : Sl w v xs) (hb : Below w.heap.size w w') : Sl w' v xs := by
  obtain ⟨g, c, hv, hc, hg⟩ := h
  exact ⟨g, c, hv, hc.later hb hg, Nat.lt_of_lt_of_le hg hb.size⟩
theorem Sl.of_owns {w : World} {base : Nat} {v : Value} {n : Nat} {xs : List Int} (h : w.ownsRow base 3 1 v n (ints xs)) (hn : 0 < n) : Sl w v xs := by
  have h2 := h.2
  rcases h2 with ⟨_, h0⟩ | ⟨g, cap, cur, hv, rest⟩
  · omega
  · subst hv
    have hl : xs.length = n := by have := h.1; simp [ints] at this; exact this
    exact ⟨g, cap, by rw [hl], cells_of_owns h, (h.lt _ rfl).2⟩
theorem owns_lit (w : World) (x : Int) (B : Nat) (hB : B ≤ w.heap.size) : (w.alloc (.cells #[.int .i64 x] 3)).ownsRow B 3 1 (.slice (some ⟨w.heap.size, 0, none⟩) 1 1) 1 (ints [x]) :=
  ⟨rfl, .inr ⟨w.heap.size, 1, _, rfl, hB, heap_alloc_new w _, by omega, by unfold maxLen; omega, rfl, rfl⟩⟩

theorem val_take_succ_bit {ys : List Int} {k : Nat} {p : Int} (y : Int) (h : y = ys.getD k 0) : val (ys.take (k + 1)) = val (ys.take k) + 2 ^ k * y := by rw [h]; exact take_succ' ys k
theorem num_mul {zs : List Int} {a b : Nat} (h : val zs = a * b) : num zs = mul a b := by unfold num mul; rw [h]

set_option maxRecDepth 100000 in
set_option maxHeartbeats 2000000 in
theorem mul_any (a b : Int) (w : World) (ha : U a) (hb : U b) : Calls Tryz.prog 19 #[.int .u64 a, .int .u64 b] w (Ans (mul a b) w) := by
  obtain ⟨i0, hi, hz0, hz1, hz2⟩ := info_parts info_int
  obtain ⟨a, rfl⟩ := Int.eq_ofNat_of_zero_le ha.lo
  obtain ⟨b, rfl⟩ := Int.eq_ofNat_of_zero_le hb.lo
  have a64 : a < 18446744073709551616 := by have := ha.hi; omega
  have b64 : b < 18446744073709551616 := by have := hb.hi; omega
  go_enter Tryz.func19, Tryz.ntmps19
  go_wp2_with fail
  refine (bits_any a _ ha).mono ?_
  rintro e w1 ⟨g, rfl, cx, hg1, hg2, hb1⟩
  simp only [Int.toNat_natCast] at cx
  have CX := Lib.hid cx
  clear cx
  go_wp2_with fail
  refine (bits_any b _ hb).mono ?_
  rintro e w2 ⟨h, rfl, cy, hh1, hh2, hb2⟩
  simp only [Int.toNat_natCast] at cy
  have SX : Hid (Sl w2 (.slice (some ⟨g, 0, none⟩) 64 64) (bitsOf a 64)) := Lib.hid ⟨g, 64, by rw [bitsOf_length], CX.out.later hb2 hg2, Nat.lt_of_lt_of_le hg2 hb2.size⟩
  have CY := Lib.hid cy
  have HB := Lib.hid (hb1.trans (hb2.mono (B' := w.heap.size) (by omega)))
  clear cy CX hb1 hb2
  have hbz : b / 2 ^ 64 = 0 := Nat.div_eq_of_lt (by omega)
  have HBZ := Lib.hid hbz
  clear hbz
  go_wp2
  generalize hys : bitsOf b 64 = ys at *
  have YB : IsBits ys := by rw [← hys]; exact bitsOf_isBits _ _
  have YL : Hid (ys.length = 64) := by refine Lib.hid ?_; rw [← hys]; exact bitsOf_length _ _
  have YV : Hid (val ys = b) := by refine Lib.hid ?_; rw [← hys]; exact val_bits64 b64
  clear hys
  go_loopw [6, 8, 9] (fun x s i wr => ∃ (k : Nat) (xs ss : List Int), k ≤ 64 ∧ i = .int .i64 k ∧ Sl wr x xs ∧ Sl wr s ss ∧ IsBits xs ∧ IsBits ss ∧ xs.length = 64 + k ∧ ss.length ≤ 64 + k ∧
      val xs = 2 ^ k * a ∧ val ss = a * val (ys.take k) ∧ Cells wr h ys ∧ Below w.heap.size w wr ∧ w2.heap.size ≤ wr.heap.size)
    (fun _ _ i _ => 64 - (intOf i).toNat)
  case atStart =>
    have hal : Below w2.heap.size w2 (w2.alloc (.cells #[] 3)) := (Below.refl _ _).alloc (Nat.le_refl _) _
    refine ⟨0, bitsOf a 64, [], by omega, rfl, SX.out.later hal, ⟨w2.heap.size, 0, rfl, fun i hi => absurd hi (by simp), by simp⟩, bitsOf_isBits _ _, fun x hx => by simp at hx, bitsOf_length _ _, by simp, by rw [val_bits64 a64]; simp, by simp [val], CY.out.later hal hh2, HB.out.trans (hal.mono (by have := HB.out.size; omega)), by simp⟩
  case round =>
    obtain ⟨k, xs, ss, hk, rfl, sx, sS, bx, bs, lx, ls, vx, vs, cy, hbel, hsz⟩ := hrel
    obtain ⟨wo, rfl⟩ : ∃ wo : World, wo = wr := ⟨_, rfl⟩
    by_cases hlt : k < 64
    · have cyk := cy k (by have := YL.out; omega)
      have hb01 := bit_getD YB k
      have hstep := val_take_succ_bit (ys := ys) (k := k) (p := 0) (ys.getD k 0) rfl
      generalize ys.getD k 0 = y at *
      have HSTEP := Lib.hid hstep
      have VS := Lib.hid vs
      have VX := Lib.hid vx
      have LX := Lib.hid lx
      have CYR := Lib.hid cy
      have SXR := Lib.hid sx
      obtain ⟨gx, cx, rfl, hcx, hgx⟩ := sx
      obtain ⟨gs, cs, rfl, hcs, hgs⟩ := sS
      have HCX := Lib.hid hcx
      have HCS := Lib.hid hcs
      clear hstep vs vx cy hcx hcs
      have hlx : xs.length ≤ 1000000 := by omega
      have hls : ss.length ≤ 1000000 := by omega
      have HP := Lib.hid (plus_any ss xs gs gx cs cx wo bs bx hls hlx HCS.out HCX.out hgs hgx)
      obtain ⟨lxv, hlxv⟩ : ∃ n, n = xs.length := ⟨_, rfl⟩
      obtain ⟨lsv, hlsv⟩ : ∃ n, n = ss.length := ⟨_, rfl⟩
      rw [← hlxv, ← hlsv] at HP
      rw [← hlxv] at hlx
      rw [← hlxv, ← hlsv]
      rw [← hlsv] at ls
      have LXV := Lib.hid hlxv
      have LSV := Lib.hid hlsv
      clear lx hlxv hlsv hls
      go_upto_if 25 with fail
      go_cut [8] from 17 to 43 (fun s8 wx => ∃ zs, Sl wx s8 zs ∧ IsBits zs ∧ zs.length ≤ 65 + k ∧ val zs = a * val (ys.take (k + 1)) ∧ Below wo.heap.size wo wx)
      case first =>
        rcases hb01 with rfl | rfl
        · go_wp2
          go_meet
          exact ⟨ss, ⟨gs, cs, by rw [← LSV.out], HCS.out, hgs⟩, bs, by rw [← LSV.out]; omega, by rw [HSTEP.out, VS.out]; simp, Below.refl _ _⟩
        · go_wp2_with (go_at_call 28; refine HP.out.mono ?_; rintro e w3 ⟨gz, zs, rfl, cz, bz, vz, lz, hz1, hz2, hbz⟩; have LZZ := Lib.hid lz; have VZZ := Lib.hid vz; have CZZ := Lib.hid cz; clear lz vz cz)
          go_meet
          refine ⟨zs, ⟨gz, _, rfl, CZZ.out, hz2⟩, bz, ?_, ?_, hbz⟩
          · rw [LZZ.out, ← LSV.out, LX.out]; omega
          · rw [VZZ.out, VS.out, VX.out, HSTEP.out, Int.mul_add, Int.mul_one, Int.mul_comm (a : Int) (2 ^ k)]
      case rest =>
        obtain ⟨zs, sz, bz, lz, vz, hb3⟩ := hcut
        have SZ := Lib.hid sz
        have VZ := Lib.hid vz
        have LZ := Lib.hid lz
        have hB3 := Lib.hid hb3
        have hcx3 := HCX.out.later hb3 hgx
        have HC3 := Lib.hid hcx3
        clear sz vz lz hb3 hcx3
        go_wp2
        go_loopw [10, 11] (fun v j wr => ∃ k2 : Nat, k2 ≤ lxv ∧ j = .int .i64 k2 ∧ wr.ownsRow wc.heap.size 3 1 v (k2 + 1) (ints (0 :: xs.take k2)) ∧ Below wc.heap.size wc wr)
          (fun _ j _ => lxv - (intOf j).toNat)
        case atStart => exact ⟨0, by omega, rfl, owns_lit wc 0 _ (Nat.le_refl _), (Below.refl _ _).alloc (Nat.le_refl _) _⟩
        case round =>
          obtain ⟨k2, hk2, rfl, hown, hbq⟩ := hrel
          by_cases hl2 : k2 < lxv
          · have hc2 : wr.cell? ⟨gx, k2, none⟩ = some (.int .i64 (xs.getD k2 0)) := (hbq.cell (by exact Nat.lt_of_lt_of_le hgx hB3.out.size)).trans (HC3.out k2 (by rw [← LXV.out]; exact hl2))
            have HT : Hid (xs.take (k2 + 1) = xs.take k2 ++ [xs.getD k2 0]) := by
              refine Lib.hid ?_
              have h9 : k2 < xs.length := by rw [← LXV.out]; exact hl2
              rw [List.take_succ_eq_append_getElem h9]; simp [List.getD, h9]
            generalize xs.getD k2 0 = x at *
            have HO := Lib.hid hown
            clear hown
            go_wp2_with (at_builtin; refine wpList_append_own _ rfl _ _ 74 rfl wc.heap.size 3 i0 (.int .i64 0) 1 8 Tryz.underlying74 hi hz0 hz1 hz2 rfl (by decide) _ _ _ rfl (HO.out.alloc _) ⟨wr.heap.size, 0, none⟩ 1 1 [.int .i64 x] rfl rfl ?c1 ?c2 ?c3 ?c4 ?c5 ?_)
            case c1 =>
              intro j u hj
              match j, hj with
              | 0, hj => simp at hj; subst hj; simp [Addr.add]
            case c2 => intro u hu; simp at hu; subst hu; rfl
            case c3 => unfold maxLen; omega
            case c4 => omega
            case c5 => have := hbq.size; simp; omega
            intro v' w5 hown' hgrow _
            have HO2 : Hid (w5.ownsRow wc.heap.size 3 1 v' (k2 + 1 + 1) (ints (0 :: xs.take (k2 + 1)))) := by
              refine Lib.hid ?_
              rw [HT.out]
              simpa [ints] using hown'
            have HB5 := Lib.hid ((hbq.alloc hbq.size (.cells #[.int .i64 x] 3)).grown hgrow (by have := hbq.size; simp; omega) (fun q hq => (HO.out.lt q hq).1))
            clear hown' hgrow
            go_wp2
            go_roundw
            case rel => exact ⟨k2 + 1, by omega, by go_num, HO2.out, HB5.out⟩
            case measure => simp [intOf]; omega
          · have e2 : k2 = lxv := by omega
            subst e2
            have h5 := Sl.of_owns hown (by omega)
            rw [List.take_of_length_le (by rw [← LXV.out]; exact Nat.le_refl _)] at h5
            have H5 := Lib.hid h5
            have hbw : Below wo.heap.size wo wr := hB3.out.trans (hbq.mono hB3.out.size)
            have HSZ := Lib.hid (SZ.out.later hbq)
            have HBW := Lib.hid hbw
            clear h5 hown hbw
            go_wp2
            go_roundw
            case rel =>
              refine ⟨k + 1, 0 :: xs, zs, by omega, by go_num, H5.out, HSZ.out, ?_, bz, ?_, ?_, ?_, VZ.out, ?_, ?_, ?_⟩
              · intro y hy
                rcases List.mem_cons.1 hy with h | h
                · exact .inl h
                · exact bx y h
              · rw [List.length_cons, LX.out]; omega
              · have := LZ.out; omega
              · simp only [val]; rw [VX.out, Int.pow_succ]; simp [Int.mul_assoc, Int.mul_left_comm]
              · exact CYR.out.later HBW.out (Nat.lt_of_lt_of_le hh2 hsz)
              · exact hbel.trans (HBW.out.mono hbel.size)
              · exact Nat.le_trans hsz HBW.out.size
            case measure => simp [intOf]; omega
    · have : k = 64 := by omega
      subst this
      rw [List.take_of_length_le (by have := YL.out; omega), YV.out] at vs
      obtain ⟨gs, cs, rfl, hcs, hgs⟩ := sS
      have HM := Lib.hid (number_any ss gs cs wo bs (by omega) hcs)
      have HN := Lib.hid (num_mul vs)
      have HBE := Lib.hid hbel
      clear vs hcs lx vx sx cy ls hbel
      go_wp2_with (go_at_call 29; refine HM.out.mono ?_; rintro e w' ⟨rfl, rfl⟩; rw [HN.out])
      go_ret2
      exact Ans_mk rfl HBE.out
end Go.Proofs.YtmaphdhdfbgflaaGreatDoor.Mul2W
