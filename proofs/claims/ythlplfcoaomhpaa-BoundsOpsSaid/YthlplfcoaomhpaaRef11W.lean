/- The walks of the reference of layer 11: lesser, greater, Join, Op. -/
import Derived.Test.YthlplfcoaomhpaaBounds2W
import Derived.Test.YthlplfcoaomhpaaRefOpW
import Derived.Test.YthlplfcoaomhpaaBoundsL
import Derived.Deep.DeepCutAuto
set_option linter.unusedVariables false
namespace Go.Proofs.Ythlplfcoaomhpaa.Ref11W
open Go.RowKit Go.Proofs.Ythlplfcoaomhpaa.Word Go.Proofs.Ythlplfcoaomhpaa.WordW Go.Proofs.Ythlplfcoaomhpaa.BoundsN Go.Proofs.Ythlplfcoaomhpaa.BoundsW Go.Proofs.Ythlplfcoaomhpaa.Mem Go.Proofs.Ythlplfcoaomhpaa.MulW

theorem lesser_any (a b : Int) (w : World) : Calls Try.prog 28 #[.int .u64 a, .int .u64 b] w fun e w' => e = .returned (.int .u64 (min a b)) ∧ w = w' := by
  by_cases h : a < b
  · have e : min a b = a := by omega
    rw [e]
    go_enter Try.func28, Try.ntmps28
    go_wp2
    go_ret
    exact ⟨rfl, rfl⟩
  · have e : min a b = b := by omega
    rw [e]
    go_enter Try.func28, Try.ntmps28
    go_wp2
    go_ret
    exact ⟨rfl, rfl⟩

theorem greater_any (a b : Int) (w : World) : Calls Try.prog 27 #[.int .u64 a, .int .u64 b] w fun e w' => e = .returned (.int .u64 (max a b)) ∧ w = w' := by
  by_cases h : b < a
  · have e : max a b = a := by omega
    rw [e]
    go_enter Try.func27, Try.ntmps27
    go_wp2
    go_ret
    exact ⟨rfl, rfl⟩
  · have e : max a b = b := by omega
    rw [e]
    go_enter Try.func27, Try.ntmps27
    go_wp2
    go_ret
    exact ⟨rfl, rfl⟩

theorem join_any (a b : R) (w : World) : Calls Try.prog 13 #[.agg #[.int .u64 a.lo, .int .u64 a.hi], .agg #[.int .u64 b.lo, .int .u64 b.hi]] w (Ran ⟨min a.lo b.lo, max a.hi b.hi⟩ w) := by
  obtain ⟨al, ah⟩ := a
  obtain ⟨bl, bh⟩ := b
  go_enter Try.func13, Try.ntmps13
  go_wp2_with (first
    | (go_at_call 28; refine (lesser_any _ _ _).mono ?_; rintro e w' ⟨rfl, rfl⟩)
    | (go_at_call 27; refine (greater_any _ _ _).mono ?_; rintro e w' ⟨rfl, rfl⟩))
  exact bodyPost_ret (v := .agg #[.int .u64 (min al bl), .int .u64 (max ah bh)]) (by simp [results, Try.results13, go_sem]) rfl (Ran_mk rfl ((((Bel.refl _).new _).new _).new _))

/-- What is left of a number that is halved. -/
theorem aux_step (f x : Nat) (h : x ≠ 0) : Lib.bitLenAux (f + 1) x = 1 + Lib.bitLenAux f (x / 2) := by rw [Lib.bitLenAux, if_neg h]
theorem aux_zero (f : Nat) : Lib.bitLenAux f 0 = 0 := by cases f <;> simp [Lib.bitLenAux]

/-- What lies in three new blocks of two. -/
theorem cells3 (w : World) (x0 x1 y0 y1 z0 z1 : Value) (T : TypeId) (W : World) (hW : W = ((w.alloc (.cells #[x0, x1] T)).alloc (.cells #[y0, y1] T)).alloc (.cells #[z0, z1] T)) :
    (W.cell? ⟨w.heap.size, 0, none⟩ = some x0 ∧ W.cell? ⟨w.heap.size, 1, none⟩ = some x1 ∧ W.cell? ⟨w.heap.size + 1, 0, none⟩ = some y0 ∧ W.cell? ⟨w.heap.size + 1, 1, none⟩ = some y1 ∧ W.cell? ⟨w.heap.size + 1 + 1, 0, none⟩ = some z0 ∧ W.cell? ⟨w.heap.size + 1 + 1, 1, none⟩ = some z1) ∧
    W.frozen? ⟨w.heap.size + 1 + 1, 0, none⟩ = false ∧ W.frozen? ⟨w.heap.size + 1 + 1, 1, none⟩ = false := by
  subst hW
  have e1 : (w.alloc (.cells #[x0, x1] T)).heap.size = w.heap.size + 1 := by simp
  have e2 : ((w.alloc (.cells #[x0, x1] T)).alloc (.cells #[y0, y1] T)).heap.size = w.heap.size + 1 + 1 := by simp
  refine ⟨⟨?_, ?_, ?_, ?_, ?_, ?_⟩, ?_, ?_⟩
  · rw [World.cell?_alloc_lt _ _ _ (by simp; omega), World.cell?_alloc_lt _ _ _ (by simp)]
    exact World.cell?_alloc_at _ _ _ _ rfl
  · rw [World.cell?_alloc_lt _ _ _ (by simp; omega), World.cell?_alloc_lt _ _ _ (by simp)]
    exact World.cell?_alloc_at _ _ _ _ rfl
  · rw [World.cell?_alloc_lt _ _ _ (by simp)]
    exact World.cell?_alloc_at _ _ _ _ (by simp)
  · rw [World.cell?_alloc_lt _ _ _ (by simp)]
    exact World.cell?_alloc_at _ _ _ _ (by simp)
  · exact World.cell?_alloc_at _ _ _ _ (by simp)
  · exact World.cell?_alloc_at _ _ _ _ (by simp)
  · exact World.frozen?_alloc_at _ _ _ _ (by simp)
  · exact World.frozen?_alloc_at _ _ _ _ (by simp)

theorem none_of {s : List UInt8} {a b : R} (g : ¬ (a.lo ≤ a.hi ∧ b.lo ≤ b.hi)) : none2 = bop s a b := by unfold bop; rw [if_neg g]
theorem point_ok {s : List UInt8} {a b : R} (g : a.lo ≤ a.hi ∧ b.lo ≤ b.hi) (c : a.lo = a.hi ∧ b.lo = b.hi) (h : (op s a.lo b.lo).2 = 0) : (⟨(op s a.lo b.lo).1, (op s a.lo b.lo).1⟩, true) = bop s a b := by unfold bop; rw [if_pos g, if_pos c, if_pos h]
theorem point_no {s : List UInt8} {a b : R} (g : a.lo ≤ a.hi ∧ b.lo ≤ b.hi) (c : a.lo = a.hi ∧ b.lo = b.hi) (h : (op s a.lo b.lo).2 ≠ 0) : none2 = bop s a b := by unfold bop; rw [if_pos g, if_pos c, if_neg h]
theorem wide_ok {s : List UInt8} {a b : R} {r : R} (g : a.lo ≤ a.hi ∧ b.lo ≤ b.hi) (c : ¬ (a.lo = a.hi ∧ b.lo = b.hi)) (h : wide s a b = (r, true)) : (r, true) = bop s a b := by unfold bop; rw [if_pos g, if_neg c, h, if_pos rfl]
theorem wide_no {s : List UInt8} {a b : R} (g : a.lo ≤ a.hi ∧ b.lo ≤ b.hi) (c : ¬ (a.lo = a.hi ∧ b.lo = b.hi)) (h : (wide s a b).2 = false) : none2 = bop s a b := by unfold bop; rw [if_pos g, if_neg c, if_neg (by rw [h]; simp)]

set_option maxRecDepth 100000 in
set_option maxHeartbeats 4000000 in
theorem op_any (s : ByteArray) (a b : R) (w : World) (ha : UR a) (hb : UR b) : Calls Try.prog 10 #[.string s, .agg #[.int .u64 a.lo, .int .u64 a.hi], .agg #[.int .u64 b.lo, .int .u64 b.hi]] w (Rans (bop s.toList a b) w) := by
  have HL := Lib.hid (fun w => RefOpW.op_any s a.lo b.lo w ha.1 hb.1)
  have HH := Lib.hid (fun w => RefOpW.op_any s a.hi b.hi w ha.2 hb.2)
  have HN := Lib.hid (fun g => none_of (s := s.toList) (a := a) (b := b) g)
  have HPK := Lib.hid (fun g c h => point_ok (s := s.toList) (a := a) (b := b) g c h)
  have HPN := Lib.hid (fun g c h => point_no (s := s.toList) (a := a) (b := b) g c h)
  have HWK := Lib.hid (fun r g c h => wide_ok (s := s.toList) (a := a) (b := b) (r := r) g c h)
  have HWN := Lib.hid (fun g c h => wide_no (s := s.toList) (a := a) (b := b) g c h)
  obtain ⟨al, ah⟩ := a
  obtain ⟨bl, bh⟩ := b
  generalize hr : bop s.toList ⟨al, ah⟩ ⟨bl, bh⟩ = r at *
  clear hr
  have h1 := ha.1.lo; have h2 := ha.1.hi; have h3 := ha.2.lo; have h4 := ha.2.hi
  have h5 := hb.1.lo; have h6 := hb.1.hi; have h7 := hb.2.lo; have h8 := hb.2.hi
  simp only at HL HH HN HPK HPN HWK HWN h1 h2 h3 h4 h5 h6 h7 h8 ⊢
  have B0 := Lib.hid ((((Bel.refl w).new (.cells #[.int .u64 al, .int .u64 ah] 26)).new (.cells #[.int .u64 bl, .int .u64 bh] 26)).new (.cells #[.int .u64 0, .int .u64 0] 26))
  by_cases g1 : ah < al
  · have HF := Lib.hid (HN.out (fun h => by omega))
    go_enter Try.func10, Try.ntmps10
    go_wp2
    exact bodyPost_ret (v := .tuple #[.agg #[.int .u64 0, .int .u64 0], .bool false]) (by simp [results, Try.results10, go_sem]) rfl (Rans_mk HF.out (by repeat (first | exact Bel.refl _ | refine Bel.new ?_ _)))
  by_cases g2 : bh < bl
  · have HF := Lib.hid (HN.out (fun h => by omega))
    go_enter Try.func10, Try.ntmps10
    go_wp2
    exact bodyPost_ret (v := .tuple #[.agg #[.int .u64 0, .int .u64 0], .bool false]) (by simp [results, Try.results10, go_sem]) rfl (Rans_mk HF.out (by repeat (first | exact Bel.refl _ | refine Bel.new ?_ _)))
  have gg : al ≤ ah ∧ bl ≤ bh := by omega
  by_cases g3 : al = ah ∧ bl = bh
  · have d3 : (al == ah) = true := beq_iff_eq.2 g3.1
    have d4 : (bl == bh) = true := beq_iff_eq.2 g3.2
    by_cases g4 : (op s.toList al bl).2 = 0
    · have HF := Lib.hid (HPK.out gg g3 g4)
      have d5 : ((op s.toList al bl).2 != 0) = false := by simp [g4]
      clear g3 g4
      go_enter Try.func10, Try.ntmps10
      go_wp2_with (go_at_call 26; refine (HL.out _).mono ?_; rintro e w' ⟨rfl, hbl⟩; obtain ⟨hc, hf⟩ := bcell hbl; have hz := hbl.size; simp at hz; have HB := Lib.hid (B0.out.then hbl); clear hbl)
      refine bodyPost_ret (v := .tuple #[.agg #[.int .u64 (op s.toList al bl).1, .int .u64 (op s.toList al bl).1], .bool true]) (by simp [results, Try.results10, go_sem, *]) rfl (Rans_mk HF.out ?_)
      exact (HB.out.store (p := ⟨w.heap.size + 1 + 1, 0, none⟩) (by simp; omega) _).store (p := ⟨w.heap.size + 1 + 1, 1, none⟩) (by simp; omega) _
    · have HF := Lib.hid (HPN.out gg g3 g4)
      have d5 : ((op s.toList al bl).2 != 0) = true := by simp [g4]
      clear g3 g4
      go_enter Try.func10, Try.ntmps10
      go_wp2_with (go_at_call 26; refine (HL.out _).mono ?_; rintro e w' ⟨rfl, hbl⟩; obtain ⟨hc, hf⟩ := bcell hbl; have hz := hbl.size; simp at hz; have HB := Lib.hid (B0.out.then hbl); clear hbl)
      refine bodyPost_ret (v := .tuple #[.agg #[.int .u64 0, .int .u64 0], .bool false]) (by simp [results, Try.results10, go_sem, *]) rfl (Rans_mk HF.out ?_)
      exact (HB.out.store (p := ⟨w.heap.size + 1 + 1, 0, none⟩) (by simp; omega) _).store (p := ⟨w.heap.size + 1 + 1, 1, none⟩) (by simp; omega) _
  have d34 : Hid ((al == ah) = false ∨ ((al == ah) = true ∧ (bl == bh) = false)) := by
    refine Lib.hid ?_
    by_cases q : al = ah
    · exact .inr ⟨beq_iff_eq.2 q, beq_eq_false_iff_ne.2 fun h => g3 ⟨q, h⟩⟩
    · exact .inl (beq_eq_false_iff_ne.2 q)
  have WK := Lib.hid (fun r h => HWK.out r gg g3 h)
  have WN := Lib.hid (HWN.out gg g3)
  clear HWK HWN HPK HPN HN g3
  go_enter Try.func10, Try.ntmps10
  go_upto_region 4 with (go_at_call 26; refine (HL.out _).mono ?_; rintro e w' ⟨rfl, hbl⟩; obtain ⟨hc, hf⟩ := bcell hbl; have hz := hbl.size; simp at hz; have HB := Lib.hid (B0.out.then hbl); clear hbl)
  go_cut [58] (fun s58 wx => s58 = .bool false ∧ wx = w')
  case first =>
    rcases d34.out with q1 | ⟨q1, q2⟩
    all_goals
      go_wp2
      go_meet
      exact ⟨rfl, rfl⟩
  case rest =>
    obtain ⟨rfl, rfl⟩ := hcut
    go_upto_if 75 with (go_at_call 26; refine (HH.out _).mono ?_; rintro e w2 ⟨rfl, hbl⟩; obtain ⟨hc2, hf2⟩ := bcell hbl; have hz2 := hbl.size; have HB2 := Lib.hid hbl; clear hbl)
    go_cut [10] (fun s10 wx => s10 = .int .u64 (orTop (op s.toList ah bh)) ∧ wx = w2)
    case first =>
      by_cases q : (op s.toList ah bh).2 = 0
      · have q2 : ((op s.toList ah bh).2 != 0) = false := by simp [q]
        go_wp2
        go_meet
        exact ⟨by unfold orTop; rw [if_pos q], rfl⟩
      · have q2 : ((op s.toList ah bh).2 != 0) = true := by simp [q]
        go_wp2
        go_meet
        exact ⟨by unfold orTop; rw [if_neg q]; rfl, rfl⟩
    case rest =>
      obtain ⟨rfl, rfl⟩ := hcut
      have HBW := Lib.hid (HB.out.then HB2.out)
      have CS := cells3 w (.int .u64 al) (.int .u64 ah) (.int .u64 bl) (.int .u64 bh) (.int .u64 0) (.int .u64 0) 26 _ rfl
      have c0 : wc.cell? ⟨w.heap.size, 0, none⟩ = some (.int .u64 al) := by rw [hc2 (w.heap.size) 0 (by omega), hc (w.heap.size) 0 (by first | (simp; done) | (simp; omega))]; exact CS.1.1
      have c1 : wc.cell? ⟨w.heap.size, 1, none⟩ = some (.int .u64 ah) := by rw [hc2 (w.heap.size) 1 (by omega), hc (w.heap.size) 1 (by first | (simp; done) | (simp; omega))]; exact CS.1.2.1
      have c2 : wc.cell? ⟨w.heap.size + 1, 0, none⟩ = some (.int .u64 bl) := by rw [hc2 (w.heap.size + 1) 0 (by omega), hc (w.heap.size + 1) 0 (by first | (simp; done) | (simp; omega))]; exact CS.1.2.2.1
      have c3 : wc.cell? ⟨w.heap.size + 1, 1, none⟩ = some (.int .u64 bh) := by rw [hc2 (w.heap.size + 1) 1 (by omega), hc (w.heap.size + 1) 1 (by first | (simp; done) | (simp; omega))]; exact CS.1.2.2.2.1
      have c4 : wc.cell? ⟨w.heap.size + 1 + 1, 0, none⟩ = some (.int .u64 0) := by rw [hc2 (w.heap.size + 1 + 1) 0 (by omega), hc (w.heap.size + 1 + 1) 0 (by first | (simp; done) | (simp; omega))]; exact CS.1.2.2.2.2.1
      have c5 : wc.cell? ⟨w.heap.size + 1 + 1, 1, none⟩ = some (.int .u64 0) := by rw [hc2 (w.heap.size + 1 + 1) 1 (by omega), hc (w.heap.size + 1 + 1) 1 (by first | (simp; done) | (simp; omega))]; exact CS.1.2.2.2.2.2
      have f4 : wc.frozen? ⟨w.heap.size + 1 + 1, 0, none⟩ = false := by rw [hf2 (w.heap.size + 1 + 1) 0 (by omega), hf (w.heap.size + 1 + 1) 0 (by first | (simp; done) | (simp; omega))]; exact CS.2.1
      have f5 : wc.frozen? ⟨w.heap.size + 1 + 1, 1, none⟩ = false := by rw [hf2 (w.heap.size + 1 + 1) 1 (by omega), hf (w.heap.size + 1 + 1) 1 (by first | (simp; done) | (simp; omega))]; exact CS.2.2
      clear CS
      have HST : Hid (∀ u v, Bel w ((wc.setCell ⟨w.heap.size + 1 + 1, 0, none⟩ u).setCell ⟨w.heap.size + 1 + 1, 1, none⟩ v)) :=
        Lib.hid fun u v => (HBW.out.store (p := ⟨w.heap.size + 1 + 1, 0, none⟩) (by simp; omega) _).store (p := ⟨w.heap.size + 1 + 1, 1, none⟩) (by simp; omega) _
      have HST2 : Hid (∀ u v, Bel w ((wc.setCell ⟨w.heap.size + 1 + 1, 0, none⟩ u).setCell ⟨w.heap.size + 1 + 1, 1, none⟩ v).drew) := Lib.hid fun u v => (HST.out u v).drew
      have WR := Lib.hid (fun h => WN.out h)
      clear hc hf hc2 hf2 d34 HL HH B0 HB HB2 g1 g2 ha hb
      generalize horT : orTop (op s.toList ah bh) = oT
      have HOT := Lib.hid horT
      clear horT
      by_cases hs : s.toList = [43]
      · have e0 : (s.toList == [43]) = true := by rw [hs]; rfl
        have e1 : (s.toList == [45]) = false := by rw [hs]; rfl
        have e2 : (s.toList == [42]) = false := by rw [hs]; rfl
        have e3 : (s.toList == [47]) = false := by rw [hs]; rfl
        have e4 : (s.toList == [37]) = false := by rw [hs]; rfl
        have e5 : (s.toList == [60, 60]) = false := by rw [hs]; rfl
        have e6 : (s.toList == [62, 62]) = false := by rw [hs]; rfl
        have e7 : (s.toList == [38]) = false := by rw [hs]; rfl
        have e8 : (s.toList == [124]) = false := by rw [hs]; rfl
        have ho : op s.toList al bl = add al bl := by rw [hs]; rfl
        have ho2 : op s.toList ah bh = add ah bh := by rw [hs]; rfl
        by_cases q : (op s.toList al bl).2 = 0
        · have hw : wide s.toList ⟨al, ah⟩ ⟨bl, bh⟩ = (⟨(op s.toList al bl).1, oT⟩, true) := by rw [← HOT.out, ho, ho2]; rw [hs]; show rising add _ _ = _; unfold rising; rw [if_pos (by rw [← ho]; exact q)]
          have HF := Lib.hid (WK.out _ hw)
          have q2 : ((op s.toList al bl).2 != 0) = false := by simp [q]
          clear hw ho ho2 hs q
          go_wp2
          refine bodyPost_ret (v := .tuple #[.agg #[.int .u64 ((op s.toList al bl).1), .int .u64 (oT)], .bool true]) (by simp [results, Try.results10, go_sem, *]) rfl (Rans_mk HF.out (HST.out _ _))
        · have hw : (wide s.toList ⟨al, ah⟩ ⟨bl, bh⟩).2 = false := by rw [hs]; show (rising add _ _).2 = _; unfold rising; rw [if_neg (by rw [← ho]; exact q)]; rfl
          have HF := Lib.hid (WR.out hw)
          have q2 : ((op s.toList al bl).2 != 0) = true := by simp [q]
          clear hw ho ho2 hs q
          go_wp2
          refine bodyPost_ret (v := .tuple #[.agg #[.int .u64 (0), .int .u64 (0)], .bool false]) (by simp [results, Try.results10, go_sem, *]) rfl (Rans_mk HF.out (HST.out _ _))
      by_cases hs : s.toList = [42]
      · have e0 : (s.toList == [43]) = false := by rw [hs]; rfl
        have e1 : (s.toList == [45]) = false := by rw [hs]; rfl
        have e2 : (s.toList == [42]) = true := by rw [hs]; rfl
        have e3 : (s.toList == [47]) = false := by rw [hs]; rfl
        have e4 : (s.toList == [37]) = false := by rw [hs]; rfl
        have e5 : (s.toList == [60, 60]) = false := by rw [hs]; rfl
        have e6 : (s.toList == [62, 62]) = false := by rw [hs]; rfl
        have e7 : (s.toList == [38]) = false := by rw [hs]; rfl
        have e8 : (s.toList == [124]) = false := by rw [hs]; rfl
        have ho : op s.toList al bl = mul al bl := by rw [hs]; rfl
        have ho2 : op s.toList ah bh = mul ah bh := by rw [hs]; rfl
        by_cases q : (op s.toList al bl).2 = 0
        · have hw : wide s.toList ⟨al, ah⟩ ⟨bl, bh⟩ = (⟨(op s.toList al bl).1, oT⟩, true) := by rw [← HOT.out, ho, ho2]; rw [hs]; show rising mul _ _ = _; unfold rising; rw [if_pos (by rw [← ho]; exact q)]
          have HF := Lib.hid (WK.out _ hw)
          have q2 : ((op s.toList al bl).2 != 0) = false := by simp [q]
          clear hw ho ho2 hs q
          go_wp2
          refine bodyPost_ret (v := .tuple #[.agg #[.int .u64 ((op s.toList al bl).1), .int .u64 (oT)], .bool true]) (by simp [results, Try.results10, go_sem, *]) rfl (Rans_mk HF.out (HST.out _ _))
        · have hw : (wide s.toList ⟨al, ah⟩ ⟨bl, bh⟩).2 = false := by rw [hs]; show (rising mul _ _).2 = _; unfold rising; rw [if_neg (by rw [← ho]; exact q)]; rfl
          have HF := Lib.hid (WR.out hw)
          have q2 : ((op s.toList al bl).2 != 0) = true := by simp [q]
          clear hw ho ho2 hs q
          go_wp2
          refine bodyPost_ret (v := .tuple #[.agg #[.int .u64 (0), .int .u64 (0)], .bool false]) (by simp [results, Try.results10, go_sem, *]) rfl (Rans_mk HF.out (HST.out _ _))
      by_cases hs : s.toList = [60, 60]
      · have e0 : (s.toList == [43]) = false := by rw [hs]; rfl
        have e1 : (s.toList == [45]) = false := by rw [hs]; rfl
        have e2 : (s.toList == [42]) = false := by rw [hs]; rfl
        have e3 : (s.toList == [47]) = false := by rw [hs]; rfl
        have e4 : (s.toList == [37]) = false := by rw [hs]; rfl
        have e5 : (s.toList == [60, 60]) = true := by rw [hs]; rfl
        have e6 : (s.toList == [62, 62]) = false := by rw [hs]; rfl
        have e7 : (s.toList == [38]) = false := by rw [hs]; rfl
        have e8 : (s.toList == [124]) = false := by rw [hs]; rfl
        have ho : op s.toList al bl = shl al bl := by rw [hs]; rfl
        have ho2 : op s.toList ah bh = shl ah bh := by rw [hs]; rfl
        by_cases q : (op s.toList al bl).2 = 0
        · have hw : wide s.toList ⟨al, ah⟩ ⟨bl, bh⟩ = (⟨(op s.toList al bl).1, oT⟩, true) := by rw [← HOT.out, ho, ho2]; rw [hs]; show rising shl _ _ = _; unfold rising; rw [if_pos (by rw [← ho]; exact q)]
          have HF := Lib.hid (WK.out _ hw)
          have q2 : ((op s.toList al bl).2 != 0) = false := by simp [q]
          clear hw ho ho2 hs q
          go_wp2
          refine bodyPost_ret (v := .tuple #[.agg #[.int .u64 ((op s.toList al bl).1), .int .u64 (oT)], .bool true]) (by simp [results, Try.results10, go_sem, *]) rfl (Rans_mk HF.out (HST.out _ _))
        · have hw : (wide s.toList ⟨al, ah⟩ ⟨bl, bh⟩).2 = false := by rw [hs]; show (rising shl _ _).2 = _; unfold rising; rw [if_neg (by rw [← ho]; exact q)]; rfl
          have HF := Lib.hid (WR.out hw)
          have q2 : ((op s.toList al bl).2 != 0) = true := by simp [q]
          clear hw ho ho2 hs q
          go_wp2
          refine bodyPost_ret (v := .tuple #[.agg #[.int .u64 (0), .int .u64 (0)], .bool false]) (by simp [results, Try.results10, go_sem, *]) rfl (Rans_mk HF.out (HST.out _ _))
      by_cases hs : s.toList = [45]
      · have e0 : (s.toList == [43]) = false := by rw [hs]; rfl
        have e1 : (s.toList == [45]) = true := by rw [hs]; rfl
        have e2 : (s.toList == [42]) = false := by rw [hs]; rfl
        have e3 : (s.toList == [47]) = false := by rw [hs]; rfl
        have e4 : (s.toList == [37]) = false := by rw [hs]; rfl
        have e5 : (s.toList == [60, 60]) = false := by rw [hs]; rfl
        have e6 : (s.toList == [62, 62]) = false := by rw [hs]; rfl
        have e7 : (s.toList == [38]) = false := by rw [hs]; rfl
        have e8 : (s.toList == [124]) = false := by rw [hs]; rfl
        by_cases q : ah < bl
        · have HF := Lib.hid (WR.out (by rw [hs]; show (minus _ _).2 = _; unfold minus; rw [if_pos q]; rfl))
          clear hs
          go_wp2
          refine bodyPost_ret (v := .tuple #[.agg #[.int .u64 (0), .int .u64 (0)], .bool false]) (by simp [results, Try.results10, go_sem, *]) rfl (Rans_mk HF.out (HST.out _ _))
        · have HF := Lib.hid (WK.out ⟨al - min al bh, ah - bl⟩ (by rw [hs]; show minus _ _ = _; unfold minus; rw [if_neg q]))
          clear hs
          by_cases q3 : bh < al
          · have em : al - min al bh = al - bh := by omega
            rw [em] at HF
            clear em
            go_wp2
            refine bodyPost_ret (v := .tuple #[.agg #[.int .u64 (al - bh), .int .u64 (ah - bl)], .bool true]) (by simp [results, Try.results10, go_sem, *]) rfl (Rans_mk HF.out (HST.out _ _))
          · have em : al - min al bh = 0 := by omega
            rw [em] at HF
            clear em
            go_wp2
            refine bodyPost_ret (v := .tuple #[.agg #[.int .u64 (0), .int .u64 (ah - bl)], .bool true]) (by simp [results, Try.results10, go_sem, *]) rfl (Rans_mk HF.out (HST.out _ _))
      by_cases hs : s.toList = [47]
      · have e0 : (s.toList == [43]) = false := by rw [hs]; rfl
        have e1 : (s.toList == [45]) = false := by rw [hs]; rfl
        have e2 : (s.toList == [42]) = false := by rw [hs]; rfl
        have e3 : (s.toList == [47]) = true := by rw [hs]; rfl
        have e4 : (s.toList == [37]) = false := by rw [hs]; rfl
        have e5 : (s.toList == [60, 60]) = false := by rw [hs]; rfl
        have e6 : (s.toList == [62, 62]) = false := by rw [hs]; rfl
        have e7 : (s.toList == [38]) = false := by rw [hs]; rfl
        have e8 : (s.toList == [124]) = false := by rw [hs]; rfl
        by_cases q : bh = 0
        · have HF := Lib.hid (WR.out (by rw [hs]; show (over _ _ false).2 = _; unfold over; rw [if_pos q]; rfl))
          have q2 : (bh == 0) = true := beq_iff_eq.2 q
          clear hs
          go_wp2
          refine bodyPost_ret (v := .tuple #[.agg #[.int .u64 (0), .int .u64 (0)], .bool false]) (by simp [results, Try.results10, go_sem, *]) rfl (Rans_mk HF.out (HST.out _ _))
        · have HF := Lib.hid (WK.out ⟨al / bh, ah / max bl 1⟩ (by rw [hs]; show over _ _ false = _; unfold over; rw [if_neg q]; rfl))
          have q2 : (bh == 0) = false := beq_eq_false_iff_ne.2 q
          have q3 : 1 ≤ bh := by omega
          have q4 : 1 ≤ max bl 1 := by omega
          have q5 : (max bl 1 == 0) = false := beq_eq_false_iff_ne.2 (by omega)
          clear hs
          go_wp2_with (go_at_call 27; refine (greater_any _ _ _).mono ?_; rintro e w' ⟨rfl, rfl⟩)
          have q6 : max bl 1 ≤ 18446744073709551615 := by omega
          clear q5
          generalize max bl 1 = m at *
          have q5 : (m == 0) = false := beq_eq_false_iff_ne.2 (by omega)
          have q7 : ¬ m = 0 := by omega
          refine still_tail 10 (by kernel_rfl) (by kernel_rfl) ?_
          simp only [List.take_succ_cons, List.take_zero, List.drop_succ_cons, List.drop_zero]
          repeat still_step
          refine wpStill_nil ?_
          go_wp2
          refine bodyPost_ret (v := .tuple #[.agg #[.int .u64 (al / bh), .int .u64 (ah / m)], .bool true]) (by simp [results, Try.results10, go_sem, *]) rfl (Rans_mk HF.out (HST2.out _ _))
      by_cases hs : s.toList = [37]
      · have e0 : (s.toList == [43]) = false := by rw [hs]; rfl
        have e1 : (s.toList == [45]) = false := by rw [hs]; rfl
        have e2 : (s.toList == [42]) = false := by rw [hs]; rfl
        have e3 : (s.toList == [47]) = false := by rw [hs]; rfl
        have e4 : (s.toList == [37]) = true := by rw [hs]; rfl
        have e5 : (s.toList == [60, 60]) = false := by rw [hs]; rfl
        have e6 : (s.toList == [62, 62]) = false := by rw [hs]; rfl
        have e7 : (s.toList == [38]) = false := by rw [hs]; rfl
        have e8 : (s.toList == [124]) = false := by rw [hs]; rfl
        by_cases q : bh = 0
        · have HF := Lib.hid (WR.out (by rw [hs]; show (over _ _ true).2 = _; unfold over; rw [if_pos q]; rfl))
          have q2 : (bh == 0) = true := beq_iff_eq.2 q
          clear hs
          go_wp2
          refine bodyPost_ret (v := .tuple #[.agg #[.int .u64 (0), .int .u64 (0)], .bool false]) (by simp [results, Try.results10, go_sem, *]) rfl (Rans_mk HF.out (HST.out _ _))
        · have HF := Lib.hid (WK.out ⟨0, min ah (bh - 1)⟩ (by rw [hs]; show over _ _ true = _; unfold over; rw [if_neg q]; rfl))
          have q2 : (bh == 0) = false := beq_eq_false_iff_ne.2 q
          have q3 : 1 ≤ bh := by omega
          clear hs
          go_wp2_with (go_at_call 28; refine (lesser_any _ _ _).mono ?_; rintro e w' ⟨rfl, rfl⟩)
          refine bodyPost_ret (v := .tuple #[.agg #[.int .u64 (0), .int .u64 (min ah (bh - 1))], .bool true]) (by simp [results, Try.results10, go_sem, *]) rfl (Rans_mk HF.out (HST.out _ _))
      by_cases hs : s.toList = [62, 62]
      · have e0 : (s.toList == [43]) = false := by rw [hs]; rfl
        have e1 : (s.toList == [45]) = false := by rw [hs]; rfl
        have e2 : (s.toList == [42]) = false := by rw [hs]; rfl
        have e3 : (s.toList == [47]) = false := by rw [hs]; rfl
        have e4 : (s.toList == [37]) = false := by rw [hs]; rfl
        have e5 : (s.toList == [60, 60]) = false := by rw [hs]; rfl
        have e6 : (s.toList == [62, 62]) = true := by rw [hs]; rfl
        have e7 : (s.toList == [38]) = false := by rw [hs]; rfl
        have e8 : (s.toList == [124]) = false := by rw [hs]; rfl
        by_cases q : 63 < bl
        · have HF := Lib.hid (WR.out (by rw [hs]; show (down _ _).2 = _; unfold down; rw [if_pos q]; rfl))
          clear hs
          go_wp2
          refine bodyPost_ret (v := .tuple #[.agg #[.int .u64 (0), .int .u64 (0)], .bool false]) (by simp [results, Try.results10, go_sem, *]) rfl (Rans_mk HF.out (HST.out _ _))
        · have hx : (shr al (min bh 63)).1 = al / 2 ^ (min bh 63).toNat := by unfold shr; rw [decide_eq_true (by omega)]; rfl
          have hy : (shr ah bl).1 = ah / 2 ^ bl.toNat := by unfold shr; rw [decide_eq_true (by omega)]; rfl
          have HF := Lib.hid (WK.out ⟨(shr al (min bh 63)).1, (shr ah bl).1⟩ (by rw [hs, hx, hy]; show down _ _ = _; unfold down; rw [if_neg q]))
          have HX := Lib.hid (fun w => Ref1W.shr_any al (min bh 63) w ⟨h1, h2⟩ ⟨by omega, by unfold top; omega⟩)
          have HY := Lib.hid (fun w => Ref1W.shr_any ah bl w ⟨h3, h4⟩ ⟨h5, h6⟩)
          clear hs hx hy
          go_wp2_with (go_at_call 28; refine (lesser_any _ _ _).mono ?_; rintro e w' ⟨rfl, rfl⟩)
          refine (HX.out _).mono ?_
          rintro e w' ⟨rfl, rfl⟩
          go_wp2_with fail
          refine (HY.out _).mono ?_
          rintro e w' ⟨rfl, rfl⟩
          go_wp2_with fail
          refine bodyPost_ret (v := .tuple #[.agg #[.int .u64 ((shr al (min bh 63)).1), .int .u64 ((shr ah bl).1)], .bool true]) (by simp [results, Try.results10, go_sem, *]) rfl (Rans_mk HF.out (HST.out _ _))
      by_cases hs : s.toList = [38]
      · have e0 : (s.toList == [43]) = false := by rw [hs]; rfl
        have e1 : (s.toList == [45]) = false := by rw [hs]; rfl
        have e2 : (s.toList == [42]) = false := by rw [hs]; rfl
        have e3 : (s.toList == [47]) = false := by rw [hs]; rfl
        have e4 : (s.toList == [37]) = false := by rw [hs]; rfl
        have e5 : (s.toList == [60, 60]) = false := by rw [hs]; rfl
        have e6 : (s.toList == [62, 62]) = false := by rw [hs]; rfl
        have e7 : (s.toList == [38]) = true := by rw [hs]; rfl
        have e8 : (s.toList == [124]) = false := by rw [hs]; rfl
        have HF := Lib.hid (WK.out ⟨0, min ah bh⟩ (by rw [hs]; rfl))
        clear hs
        go_wp2_with (go_at_call 28; refine (lesser_any _ _ _).mono ?_; rintro e w' ⟨rfl, rfl⟩)
        refine bodyPost_ret (v := .tuple #[.agg #[.int .u64 (0), .int .u64 (min ah bh)], .bool true]) (by simp [results, Try.results10, go_sem, *]) rfl (Rans_mk HF.out (HST.out _ _))
      by_cases hs : s.toList = [124]
      · have e0 : (s.toList == [43]) = false := by rw [hs]; rfl
        have e1 : (s.toList == [45]) = false := by rw [hs]; rfl
        have e2 : (s.toList == [42]) = false := by rw [hs]; rfl
        have e3 : (s.toList == [47]) = false := by rw [hs]; rfl
        have e4 : (s.toList == [37]) = false := by rw [hs]; rfl
        have e5 : (s.toList == [60, 60]) = false := by rw [hs]; rfl
        have e6 : (s.toList == [62, 62]) = false := by rw [hs]; rfl
        have e7 : (s.toList == [38]) = false := by rw [hs]; rfl
        have e8 : (s.toList == [124]) = true := by rw [hs]; rfl
        have HF := Lib.hid (WK.out ⟨max al bl, mask (Lib.bitLen (max ah bh).toNat)⟩ (by rw [hs]; rfl))
        clear hs
        go_wp2_with (go_at_call 27; refine (greater_any _ _ _).mono ?_; rintro e w' ⟨rfl, rfl⟩)
        have HBL := Lib.hid (BoundsL.bitLen_lt (x := (max ah bh).toNat) (by omega))
        have HN0 : Hid (((max ah bh).toNat : Int) = max ah bh) := Lib.hid (by omega)
        have HMAX : Hid (0 ≤ max ah bh ∧ max ah bh ≤ 18446744073709551615) := Lib.hid (by omega)
        go_loop [22, 23] (fun x y => ∃ n d f : Nat, x = .int .u64 n ∧ y = .int .i64 d ∧ f + d = 64 ∧ n < 2 ^ f ∧ Lib.bitLen (max ah bh).toNat = d + Lib.bitLenAux f n ∧ n ≤ 18446744073709551615) (fun x _ => (intOf x).toNat)
        case atStart => exact ⟨(max ah bh).toNat, 0, 64, by rw [HN0.out], rfl, rfl, by have := HMAX.out; omega, by rw [Nat.zero_add]; rfl, by have := HMAX.out; omega⟩
        case round =>
          obtain ⟨n, d, f, rfl, rfl, hfd, hn, hlen, hn2⟩ := hrel
          by_cases q : n = 0
          · subst q
            rw [aux_zero, Nat.add_zero] at hlen
            rw [hlen] at HF
            clear hlen
            go_wp2_with (go_at_call 17; refine (Ref1W.mask_any _ _).mono ?_; rintro e w' ⟨rfl, rfl⟩)
            refine bodyPost_ret (v := .tuple #[.agg #[.int .u64 (max al bl), .int .u64 (mask d)], .bool true]) (by simp [results, Try.results10, go_sem, *]) rfl (Rans_mk HF.out (HST.out _ _))
          · obtain ⟨g, rfl⟩ : ∃ g, f = g + 1 := by
              cases f with
              | zero => rw [Nat.pow_zero] at hn; omega
              | succ g => exact ⟨g, rfl⟩
            have HL2 : Hid (Lib.bitLen (max ah bh).toNat = (d + 1) + Lib.bitLenAux g (n / 2)) := Lib.hid (by rw [hlen, aux_step g n q]; omega)
            have HN2 : Hid (n / 2 < 2 ^ g) := Lib.hid (by rw [Nat.pow_succ] at hn; omega)
            have q2 : (n == 0) = false := beq_eq_false_iff_ne.2 q
            have q3 : ((n : Int) == 0) = false := beq_eq_false_iff_ne.2 (by omega)
            clear hlen hn
            go_wp2
            go_round
            case rel => exact ⟨n / 2, d + 1, g, by simp, by go_num, by omega, HN2.out, HL2.out, by omega⟩
            case measure => simp [intOf]; omega
      have e0 : (s.toList == [43]) = false := beq_eq_false_iff_ne.2 (by assumption)
      have e1 : (s.toList == [45]) = false := beq_eq_false_iff_ne.2 (by assumption)
      have e2 : (s.toList == [42]) = false := beq_eq_false_iff_ne.2 (by assumption)
      have e3 : (s.toList == [47]) = false := beq_eq_false_iff_ne.2 (by assumption)
      have e4 : (s.toList == [37]) = false := beq_eq_false_iff_ne.2 (by assumption)
      have e5 : (s.toList == [60, 60]) = false := beq_eq_false_iff_ne.2 (by assumption)
      have e6 : (s.toList == [62, 62]) = false := beq_eq_false_iff_ne.2 (by assumption)
      have e7 : (s.toList == [38]) = false := beq_eq_false_iff_ne.2 (by assumption)
      have e8 : (s.toList == [124]) = false := beq_eq_false_iff_ne.2 (by assumption)
      have hw : wide s.toList ⟨al, ah⟩ ⟨bl, bh⟩ = (⟨0, 1⟩, (op s.toList 0 1).2 == 0) := by unfold wide; simp [e0, e1, e2, e3, e4, e5, e6, e7, e8]
      have ho : ∀ x y, (op s.toList x y).2 = if (cmp s.toList x y).2 then 0 else 4 := by
        intro x y
        unfold op
        simp only [e0, e1, e2, e3, e4, e5, e6, e7, e8, Bool.false_eq_true, if_false]
        split <;> rfl
      by_cases q : (cmp s.toList al bl).2 = true
      · have q1 : (op s.toList al bl).2 = 0 := by rw [ho, if_pos q]
        have q2 : ((op s.toList al bl).2 == 4) = false := by rw [q1]; rfl
        have q3 : ((op s.toList al bl).2 != 4) = true := by rw [q1]; rfl
        have HF := Lib.hid (WK.out ⟨0, 1⟩ (by rw [hw, ho, ← BoundsL.cmp_ok s.toList al bl 0 1, if_pos q]; rfl))
        clear hw ho q q1
        go_wp2
        refine bodyPost_ret (v := .tuple #[.agg #[.int .u64 0, .int .u64 1], .bool true]) (by simp [results, Try.results10, go_sem, *]) rfl (Rans_mk HF.out (HST.out _ _))
      · have q1 : (op s.toList al bl).2 = 4 := by rw [ho, if_neg q]
        have q2 : ((op s.toList al bl).2 == 4) = true := by rw [q1]; rfl
        have q3 : ((op s.toList al bl).2 != 4) = false := by rw [q1]; rfl
        have HF := Lib.hid (WR.out (by rw [hw]; show ((op s.toList 0 1).2 == 0) = false; rw [ho, ← BoundsL.cmp_ok s.toList al bl 0 1, if_neg q]; rfl))
        clear hw ho q q1
        go_wp2
        refine bodyPost_ret (v := .tuple #[.agg #[.int .u64 0, .int .u64 0], .bool false]) (by simp [results, Try.results10, go_sem, *]) rfl (Rans_mk HF.out (HST.out _ _))
end Go.Proofs.Ythlplfcoaomhpaa.Ref11W
