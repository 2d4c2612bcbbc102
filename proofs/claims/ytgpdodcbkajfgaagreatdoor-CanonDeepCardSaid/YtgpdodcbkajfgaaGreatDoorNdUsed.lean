/- The range over slices.Backward of a []bool: what the function that it hands out does. -/
import Derived.RangeFuncNested
import Derived.RangeFuncBound
import Derived.RangeFuncCalls
import Derived.RangeFuncLeaves
import Derived.Shelf.Abstract
import Derived.Shelf.RegionOpen
import Derived.WalkKit
import Derived.OwnWalkIn
import Derived.TacticsInMore
import Derived.LoopNIn
import Derived.LoopIn
import Derived.Test.YtgpdodcbkajfgaaGreatDoorProg
import Derived.Test.YtgpdodcbkajfgaaGreatDoorNdCall
import Derived.Shelf.RegionOpenPlain
import Derived.Deep.LoopGhost
import Derived.Lib.Walk
import Derived.Sort.WalkB12
import Derived.Lib.SlicesMore
import Derived.Lib.ConvBytes
import Derived.Lib.OwnBridge
import Derived.Test.YtgpdodcbkajfgaaGreatDoorNdWay
import Derived.Test.YtgpdodcbkajfgaaGreatDoorNdFast
set_option linter.unusedVariables false
set_option linter.unusedSimpArgs false
namespace Go.Proofs.Bk
open Go.RowKit Go.Shelf Go.Abs
attribute [local go_sem] Oper.semAt_some
def ups (len : Nat) : Nat → List Nat
  | 0 => []
  | k + 1 => ups len k ++ [len - 1 - k]
theorem ups_snoc (len : Nat) : ∀ k, k ≤ len → ups (len + 1) (k + 1) = len :: ups len k
  | 0, _ => by simp [ups]
  | k + 1, h => by
    rw [ups, ups_snoc len k (by omega), ups]
    simp
    omega
theorem ups_downto : ∀ len, ups len len = downto len
  | 0 => rfl
  | n + 1 => by rw [ups_snoc n n (Nat.le_refl _), ups_downto n]; rfl
set_option maxRecDepth 100000 in
set_option maxHeartbeats 2000000 in
theorem back_in (F : Fence) (n : Nat) (h7 : F.fn 110) (hro : F.round = none) (hn : 1 ≤ n) (l rb rl off len cap : Nat) (hreach : len ≤ 1000000) (J Jx : List (Elt len) → World → Prop)
    (hY : ∀ pre x W, J pre W → pre.length < len → YieldAt F (n - 1) Tryz.prog l #[.int .i64 (x.1.1 : Int), .bool x.1.2] W fun e W' =>
      (e = .returned (.bool true) ∧ J (pre ++ [x]) W' ∧ (Hd rb rl off len cap W → Hd rb rl off len cap W')) ∨ (e = .returned (.bool false) ∧ Jx (pre ++ [x]) W'))
    (W : World) (hH : Hd rb rl off len cap W) (h0 : J [] W) :
    CallsIn F n Tryz.prog 110 #[.func (.yield l) #[] #[], .pointer (some ⟨rb, 0, none⟩)] W fun e W' => (∃ v, e = .returned v) ∧
      ((∃ ys, ys.map (·.1.1) = ups len len ∧ J ys W') ∨ (∃ pre, True ∧ Jx pre W')) := by
  refine callsIn_of_wp Tryz.func110 rfl h7 ?_ hro
  simp only [Tryz.ntmps110, List.size_toArray, List.length_cons, List.length_nil, Nat.reduceAdd, Nat.reduceSub, Array.replicate_succ, Array.replicate_zero, List.push_toArray, List.append_toArray, List.nil_append, List.cons_append]
  have hBs := hH.hdr
  gi_wp2
  gi_loopw [3] (fun i wr => ∃ k : Nat, ∃ ys : List (Elt len), k ≤ len ∧ i = .int .i64 ((len : Int) - 1 - k) ∧ ys.map (·.1.1) = ups len k ∧ ys.length = k ∧ J ys wr ∧ Hd rb rl off len cap wr)
    (fun i _ => (intOf i + 1).toNat)
  case atStart => exact ⟨0, [], Nat.zero_le _, by simp, rfl, rfl, h0, hH⟩
  case round =>
    obtain ⟨k, ys, hk, rfl, hys, hyl, hJs, hHr⟩ := hrel
    have hBs' := hHr.hdr
    by_cases hlt : k < len
    · obtain ⟨j, hj⟩ : ∃ j : Nat, len - 1 - k = j := ⟨_, rfl⟩
      have hji : (len : Int) - 1 - k = (j : Int) := by omega
      have hjl : j < len := by omega
      obtain ⟨v, hc1⟩ := hHr.cells j hjl
      obtain ⟨fn, tmps, assign, body, hy, hR⟩ := hY _ ⟨(j, v), hjl⟩ wr hJs (by omega)
      dsimp only at hy
      rw [hji]
      gi_wp2
      refine hR.mono ?_
      rintro e W3 (⟨rfl, hJ3, hk3⟩ | ⟨rfl, hJx3⟩)
      · have hH3 := hk3 hHr
        gi_wp2
        go_roundw
        case rel => exact ⟨k + 1, ys ++ [⟨(j, v), hjl⟩], by omega, by simp; omega, by rw [List.map_append, hys, ups, hj]; rfl, by simp; omega, hJ3, hH3⟩
        case measure => simp [intOf] <;> omega
      · gi_wp2
        refine bodyPost_ret (results_none rfl _ _ _) rfl ?_
        exact ⟨⟨_, rfl⟩, .inr ⟨_, trivial, hJx3⟩⟩
    · obtain rfl : k = len := by omega
      have : (k : Int) - 1 - k = -1 := by omega
      rw [this]
      gi_wp2
      go_end0
      exact ⟨⟨_, rfl⟩, .inl ⟨ys, hys, hJs⟩⟩
theorem back_seq : BackSeq Tryz.prog 110 := by
  intro rb rl off len cap w hlen hw l J Jx W hb hJa hJxa hY h0
  have hH : Hd rb rl off len cap W := ⟨(hb.cell (World.block_lt_of_cell? w _ hw.hdr)).trans hw.hdr, fun j hj => by
    obtain ⟨v, hv⟩ := hw.cells j hj
    exact ⟨v, (hb.cell (World.block_lt_of_cell? w _ hv)).trans hv⟩⟩
  refine (back_in Fence.wide 2 trivial rfl (by decide) l rb rl off len cap hlen J Jx hY W hH h0).mono ?_
  rintro e W' ⟨he, ⟨ys, h1, h2⟩ | ⟨pre, _, h2⟩⟩
  · exact ⟨he, .inl ⟨ys, h1.trans (ups_downto len), h2⟩⟩
  · exact ⟨he, .inr ⟨pre, trivial, h2⟩⟩
end Go.Proofs.Bk
namespace Go.Proofs.RevW
open Go.Shelf Go.RowKit Go.Lib Go.Sort
abbrev encI (b : Int) : Value := .int .i64 b
set_option maxHeartbeats 1600000 in
set_option maxRecDepth 1000000 in
theorem rev_ints (blk off cap : Nat) (d : Array Int) (w : World) (hH : Holds encI w blk off d) (hsz : d.size ≤ 9223372036854775807) :
    Calls Tryz.prog 70 #[.slice (some ⟨blk, off, none⟩) d.size cap] w fun e w' => e = .returned (.tuple #[]) ∧ ∃ n, w' = putRow encI (Sort.ahead w n) blk off d.reverse := by
  have mixed : Tryz.prog.follows .mixedOrders = true := by kernel_rfl
  go_enter Tryz.func70, Tryz.ntmps70
  go_wp2
  go_loopg [2, 3] d.size (fun k s2 s3 wr => ∃ (i jn : Nat) (jz : Int) (dk : Array Int) (n : Nat), s2 = .int .i64 i ∧ s3 = .int .i64 jz ∧ ((i : Int) < jz → jz = jn ∧ jn < d.size) ∧ (¬ (i : Int) < jz → ¬ i < jn) ∧ jn - i ≤ k ∧
    dk.size = d.size ∧ wr = putRow encI (Sort.ahead w n) blk off dk ∧ reverseLoop i jn dk = reverseLoop 0 (d.size - 1) d)
  case atStart => exact ⟨0, d.size - 1, (d.size : Int) - 1, d, 0, rfl, rfl, fun h => ⟨by omega, by omega⟩, fun h => by omega, by omega, rfl, (putRow_self encI w blk off d hH).symm, rfl⟩
  case round =>
    obtain ⟨i, jn, jz, dk, n, rfl, rfl, h1, h2, hk, hds, hwr, heq⟩ := hrel
    by_cases hlt : (i : Int) < jz
    · obtain ⟨rfl, hjn⟩ := h1 hlt
      have hij : i < jn := by omega
      have hHk : Holds encI wr blk off dk := by rw [hwr]; exact holds_putRow encI _ blk off d dk (holds_ahead encI w n blk off d hH) hds
      obtain ⟨ci, fi⟩ := hHk i (by omega)
      obtain ⟨cj, fj⟩ := hHk jn (by omega)
      have A : Aside (wr = putRow encI (Sort.ahead w n) blk off dk) := hwr
      clear hwr hHk hH h1 h2
      go_wp2_with fail
      go_region_o
      go_wp2
      go_roundg (jn - 1 - (i + 1))
      case measure => omega
      case rel =>
        rw [reverseLoop, if_pos hij] at heq
        exact ⟨i + 1, jn - 1, (jn : Int) - 1, swp dk i jn, n + 1, by simp, rfl, fun h => ⟨by omega, by omega⟩, fun h => by omega, Nat.le_refl _, by rw [size_swp]; exact hds,
          swap_world encI (by omega) (by omega) A.out (by first | rfl | simp [encI, getElem!_pos, show jn < dk.size by omega]) (by first | rfl | simp [encI, getElem!_pos, show i < dk.size by omega]), heq⟩
    · have hnot := h2 hlt
      go_wp2
      go_end0
      refine ⟨rfl, n, ?_⟩
      rw [reverseLoop, if_neg hnot] at heq
      rw [← Lib.reverseLoop_reverse, ← heq]
end Go.Proofs.RevW
namespace Go.Abs
namespace Run
variable {E : Env} {T : Nat → FFn}
attribute [local go_sem] vr_mv vr_len vr_fa vr_nil vr_ext vr_not vr_ixs vr_sl vr_ld1 vr_ldN vr_st vr_alloc vr_box vr_mkmap vr_int vr_pick vr_build Wd vr_look vr_mk vr_app vr_sbin vr_fog vr_end vr_b2s vr_lens vr_slstr vr_cint vd_mv vd_fa vd_nil vd_ext vd_ixs vd_alloc vd_build We vd_ld1 vd_ldN vd_st vd_mset vd_app vd_int vd_end vd_cint vO_ok vD_ok vRd_ok vL_ok vB_t vB_f vG_t vG_f lseq_n lseq_r lseq_e kblk_n kblk_r kblk_e lfn_n lfn_r lloop_n lloop_e lloop_r sC_ok oFa_ptr oFa_ep oNil_ptr oNil_ep oLen_sl oLen_row oLen_nil oExt_0 oExt_1 oExt_2 okq_some oNot_bool oSl_nil rc_ptr rc_ep oRd oEp oLd1_some oLdN_some oSt oInt_int oPick_b XO Xj ffill_nil oFill_some ffill oFind_some oFind_none oOne_some oTwo_some cfin_one cfin_two wanted_b wanted_u evs_nil evs_cons fargs_nil fargs_cons oLens_str oB2s_nil oApp_unf oApp_unil oSame_some Xv loudOk_rdS mem_cons loudT readT sames_one Option.map_some Option.map_none oCint_n cells_int cells_str cells_agg cells_sl cells_row cells_map cells_ptr cells_bool cells_nil one_nil one_cons one_int one_str one_sl one_row one_map one_ptr one_bool one_vnil Yc dneq dlss dgtr W9 iEq_n iLt_n iLe XY blt_dec ble_dec mem_nil readOk_nil readOk_rd loudOk_nil XP Xt add_small List.drop_succ_cons List.drop_zero List.drop_nil List.take_succ_cons List.take_zero List.take_nil List.length_cons List.length_nil List.cons_append List.nil_append Nat.reduceAdd Nat.reduceEqDiff Nat.reduceLeDiff decide_true decide_false Bool.and_self Bool.and_true Bool.true_and Bool.not_true Bool.not_false cond_true cond_false true_and and_true Gt_St p0_eq kD_eq reduceIte Nat.add_zero Nat.zero_add Nat.reduceMul Nat.reduceSub Nat.reduceBEq List.map_cons List.map_nil Z4 Z3 XR YA X7 Yi
def qbB : FC := (Z0 (Z1 <| fo (Zh (Gt 1)) (St 32) <| fo (fmv (Gt 5)) (St 33) <| fo (Zo 68 [(Gt 32), (Gt 33)]) (St 34) <| fo (u1 Xl (Gt 34)) (St 35) <| fo (fmv (kD (.int .i64 (.ofNat 0)))) (St 36) <| Z2)
 (Zb 2 (Y3 (Z0 (Z1 <| fo (Zc dlss .lss 3 (.tmp 36) (.tmp 35) (Gt 36) (Gt 35)) (St 37) <| Z2)
 (Z0 (Z6 (Gt 37) Z9 (Yh 2))
 (Z0 (Zb 3 (Z0 (Z1 <| fo (u2 (r_ixs 1) (Gt 34) (Gt 36)) (St 38) <| fo (Zh (Gt 38)) (St 39) <| fo (fmv (Gt 39)) (St 7) <| Z2)
 (Z1 <| fo (Zh (Gt 3)) (St 40) <| fo (fmv (Gt 7)) (St 41) <| fo (u2 (r_ixs 1) (Gt 40) (Gt 41)) (St 42) <| fo (ZE 1 (Gt 42) (kD (.v (.bool true)))) p0 <| Z2)))
 (Z1 <| fo (Zc Y7 .add 3 (.tmp 36) (.const (.int .i64 (.ofNat 1))) (Gt 36) (kD (.int .i64 (.ofNat 1)))) (St 43) <| fo (fmv (Gt 43)) (St 36) <| Z2)))))))
def qb59 : FC := (Zb 1 (Z0 (Z0 (Z1 <| fo (Zh (Gt 3)) (St 23) <| fo (fmv (Gt 5)) (St 24) <| fo (u2 (r_ixs 1) (Gt 23) (Gt 24)) (St 25) <| fo (Zh (Gt 25)) (St 26) <| fo (u1 (r_un .not) (Gt 26)) (St 27) <| Z2)
 (Z6 (Gt 27) (Yh 1) Z9))
 (Z0 (Z1 <| fo (Zh (Gt 4)) (St 28) <| fo (fmv (Gt 5)) (St 29) <| fo (Y6 3 1 [(.int .i64 (.ofNat 0))] [(0, 1, (Gt 29))]) (St 30) <| fo (u2 (YY 3 1 8) (Gt 28) (Gt 30)) (St 31) <| fo (ZE 1 (Gt 4) (Gt 31)) p0 <| Z2)
 qbB)))
def bD (b : Bool) : D := .v (.bool b)
def iD (n : Nat) : D := .int .i64 (.ofNat n)
def setAll : List Nat → List Bool → List Bool
  | [], bs => bs
  | k :: r, bs => setAll r (bs.set k true)
theorem setAll_len : ∀ (l : List Nat) (bs : List Bool), (setAll l bs).length = bs.length
  | [], _ => rfl
  | k :: r, bs => by rw [setAll, setAll_len r]; simp
def stepU (nm : Nat → List Nat) (s : List Bool × List Nat) (i : Nat) : List Bool × List Nat :=
  bif s.1.getD i false then (setAll (nm i) s.1, s.2 ++ [i]) else s
structure Nms where
  p : Nat
  l : Nat
  c : Nat
  o : Nat
  b : Nat
  base : Nat
structure Nms.Ok (N : Nms) : Prop where
  ne : N.p ≠ N.l ∧ N.p ≠ N.c ∧ N.p ≠ N.o ∧ N.p ≠ N.b ∧ N.l ≠ N.c ∧ N.l ≠ N.o ∧ N.l ≠ N.b ∧ N.c ≠ N.o ∧ N.c ≠ N.b ∧ N.o ≠ N.b
  lt : N.p < N.base ∧ N.l < N.base ∧ N.c < N.base ∧ N.o < N.base ∧ N.b < N.base
def OutD (N : Nms) (hh : H) (out : List Nat) (d : D) : Prop := (out = [] ∧ d = .v (.slice none 0 0)) ∨ ∃ k, d = .sl k out.length (out.map iD) ∧ Zg hh.mem k = some (.tip out.length 3) ∧ N.base ≤ k ∧ k < hh.next ∧ 0 < out.length
structure StU (N : Nms) (F : D) (n : Nat) (bs : List Bool) (out : List Nat) (hh : H) : Prop where
  len : bs.length = n
  outl : out.length ≤ 100000
  p : Zg hh.mem N.p = some (.cells 22 [F])
  l : Zg hh.mem N.l = some (.cells 4 (bs.map bD))
  c : Zg hh.mem N.c = some (.cells 62 [.row N.l 0 n n])
  b : Zg hh.mem N.b = some (.cells 62 [.row N.l 0 n n])
  o : ∃ d, Zg hh.mem N.o = some (.cells 57 [d]) ∧ OutD N hh out d
  nx : N.base ≤ hh.next
  maps : ∀ j es, Zg hh.mem j ≠ some (.map es)
theorem drop_bs {bs : List Bool} {i : Nat} (h : i < bs.length) : (bs.map bD).drop (i * 1) = bD bs[i] :: (bs.map bD).drop (i + 1) := by
  rw [Nat.mul_one, List.drop_eq_getElem_cons (by simpa using h)]; simp
theorem drop_is {l : List Nat} {i : Nat} (h : i < l.length) : (l.map iD).drop (i * 1) = iD l[i] :: (l.map iD).drop (i + 1) := by
  rw [Nat.mul_one, List.drop_eq_getElem_cons (by simpa using h)]; simp
theorem fput_map {h : H} {l : Nat} {ty : TypeId} {cs : List D} (hm : ∀ j es, Zg h.mem j ≠ some (.map es)) : ∀ j es, Zg (W7 h l (.cells ty cs)).mem j ≠ some (.map es) := by
  intro j es
  by_cases e : j = l
  · rw [XQ e]; intro h; cases h
  · rw [Yi e]; exact hm j es
theorem ftip_map {h : H} {l n : Nat} {e : TypeId} (hm : ∀ j es, Zg h.mem j ≠ some (.map es)) : ∀ j es, Zg (W7 h l (.tip n e)).mem j ≠ some (.map es) := by
  intro j es
  by_cases e : j = l
  · rw [XQ e]; intro h; cases h
  · rw [Yi e]; exact hm j es
theorem fnew_map {h : H} {n : Nat} {e : TypeId} (hm : ∀ j es, Zg h.mem j ≠ some (.map es)) : ∀ j es, Zg (W8 h (.tip n e)).mem j ≠ some (.map es) := by
  intro j es
  by_cases e : j = h.next
  · rw [hget_new_eq e]; intro h; cases h
  · rw [YA e]; exact hm j es
def LI (N : Nms) (F : D) (n : Nat) (out : List Nat) (d34 : D) (l : List Nat) (bs0 : List Bool) (nx : Nat) (_ : Tr D) (_ : H) (m : Nat) (t : Tr D) (h : H) : Prop :=
  ∃ i, i ≤ l.length ∧ m = l.length - i ∧ Gt 34 t = d34 ∧ Gt 35 t = .int .i64 (.ofNat l.length) ∧ Gt 36 t = .int .i64 (.ofNat i) ∧ Gt 3 t = .ptr N.c 0 ∧ h.next = nx ∧ StU N F n (setAll (l.take i) bs0) out h
theorem take_succ_get {l : List Nat} {j : Nat} (h : j < l.length) : l.take (j + 1) = l.take j ++ [l[j]] := by
  rw [List.take_add_one, List.getElem?_eq_getElem h]; rfl
theorem setAll_snoc (l : List Nat) (k : Nat) : ∀ bs, setAll (l ++ [k]) bs = (setAll l bs).set k true := by
  induction l with
  | nil => intro bs; rfl
  | cons a r ih => intro bs; exact ih _
set_option maxHeartbeats 4000000 in
theorem round_ok (N : Nms) (hN : N.Ok) (F : D) (n : Nat) (nm : Nat → List Nat) (hnm : ∀ i, i < n → ∀ k ∈ nm i, k < n) (hnl : ∀ i, i < n → (nm i).length ≤ 1000000)
    (hcall : ∀ i, i < n → ∀ h, VC E T 68 [F, iD i] h (fun d h' => h' = h ∧ ((nm i = [] ∧ d = .v (.slice none 0 0)) ∨ ∃ id, d = .sl id (nm i).length ((nm i).map iD))) noPan)
    (bs : List Bool) (out : List Nat) (hh : H) (hS : StU N F n bs out hh) (i : Nat) (hi : i < n) (ho : out.length + 1 ≤ 100000) (t : Tr D) (g1 : Gt 1 t = .ptr N.p 0) (g3 : Gt 3 t = .ptr N.c 0) (g4 : Gt 4 t = .ptr N.o 0) (g5 : Gt 5 t = iD i) :
    VP E T qb59 t hh (fun e t' h' => e = .normal ∧ StU N F n (stepU nm (bs, out) i).1 (stepU nm (bs, out) i).2 h' ∧ h'.next ≤ hh.next + 2) noPan := by
  obtain ⟨⟨n1, n2, n3, n4, n5, n6, n7, n8, n9, n10⟩, q1, q2, q3, q4, q5⟩ := hN
  obtain ⟨hlen, hol, hp, hl, hc, hb, ⟨d, hod, hO⟩, hnx, hmp⟩ := hS
  have hib : i < bs.length := by omega
  have hx : oIxs 1 (.row N.l 0 n n) (iD i) hh = .ok (.ptr N.l (0 + i * 1)) hh := oIxs_row hi
  have hd1 := drop_bs hib
  have hgd : bs.getD i false = bs[i] := by simp [List.getD_eq_getElem?_getD, List.getElem?_eq_getElem hib]
  have hr1 : oRd (some (.cells 4 (bs.map bD))) (i * 1) 1 = some [bD bs[i]] := oRd_at (by rw [hd1]; rfl) rfl
  unfold qb59
  repeat' (with_reducible (first | refine Zk ?_ | refine Zl ?_ | refine ZG ?_ | refine ZF ?_ | refine Zn ?_ | refine Zd ?_ | refine Zm ?_ | refine ZH ?_ | simp (maxSteps := 2000000) (disch := first | omega | (simp only [Z4, Z3]; omega) | fail) only [go_sem, g1, g3, g4, g5, hp, hl, hc, hx, hd1]))
  simp only [bD]
  cases hbi : bs[i] with
  | false =>
    repeat' (with_reducible (first | refine Zk ?_ | refine Zl ?_ | refine ZG ?_ | refine ZF ?_ | refine Zn ?_ | refine Zd ?_ | refine Zm ?_ | refine ZH ?_ | simp (maxSteps := 2000000) (disch := first | omega | (simp only [Z4, Z3]; omega) | fail) only [go_sem, g1, g3, g4, g5, hp, hl, hc, hx, hd1]))
    have e : stepU nm (bs, out) i = (bs, out) := by simp only [stepU, hgd, hbi, cond_false]
    rw [e]
    first
      | exact ⟨rfl, ⟨hlen, hol, hp, hl, hc, hb, ⟨d, hod, hO⟩, hnx, hmp⟩, by omega⟩
      | exact ⟨⟨hlen, hol, hp, hl, hc, hb, ⟨d, hod, hO⟩, hnx, hmp⟩, by omega⟩
  | true =>
    have e : stepU nm (bs, out) i = (setAll (nm i) bs, out ++ [i]) := by simp only [stepU, hgd, hbi, cond_true]
    rw [e]
    have key : ∀ (t : Tr D) (h : H), Gt 1 t = .ptr N.p 0 → Gt 3 t = .ptr N.c 0 → Gt 5 t = iD i → StU N F n bs (out ++ [i]) h → h.next ≤ hh.next + 2 →
        VP E T qbB t h (fun e t' h' => Kblk 1 (fun e t' h' => e = .normal ∧ StU N F n (setAll (nm i) bs) (out ++ [i]) h' ∧ h'.next ≤ hh.next + 2) e t' h') noPan := by
      intro t h g1 g3 g5 hS hnx2
      obtain ⟨hlen, hol, hp, hl, hc, hb, ⟨d, hod, hO⟩, hnx, hmp⟩ := hS
      have hS : StU N F n bs (out ++ [i]) h := ⟨hlen, hol, hp, hl, hc, hb, ⟨d, hod, hO⟩, hnx, hmp⟩
      unfold qbB
      repeat' (with_reducible (first | refine Zk ?_ | refine Zl ?_ | refine ZG ?_ | refine ZF ?_ | refine Zn ?_ | refine Zd ?_ | refine Zm ?_ | refine ZH ?_ | simp (maxSteps := 2000000) (disch := first | omega | (simp only [Z4, Z3]; omega) | fail) only [go_sem, g1, g3, g5, hp, hl, hc]))
      refine Zy ?_
      simp only [go_sem]
      refine (hcall i hi h).mono ?_ (fun _ _ h => h.elim)
      rintro d34 h' ⟨rfl, hd34⟩
      have hlen34 : oLen d34 h' = .ok (.int .i64 (.ofNat (nm i).length)) h' := by
        rcases hd34 with ⟨e, rfl⟩ | ⟨id, rfl⟩
        · rw [e]; rfl
        · rfl
      repeat' (with_reducible (first | refine Zk ?_ | refine Zl ?_ | refine ZG ?_ | refine ZF ?_ | refine Zn ?_ | refine Zd ?_ | refine Zm ?_ | refine ZH ?_ | simp (maxSteps := 2000000) (disch := first | omega | (simp only [Z4, Z3]; omega) | fail) only [go_sem, g1, g3, g5, hp, hl, hc, hlen34]))
      refine vp_loopC (LI N F n (out ++ [i]) d34 (nm i) bs h'.next) (nm i).length ?_ ?_
      · refine ⟨0, Nat.zero_le _, rfl, ?_, ?_, ?_, ?_, rfl, hS⟩
        all_goals simp (maxSteps := 2000000) (disch := first | omega | (simp only [Z4, Z3]; omega) | fail) only [go_sem, g3]
      rintro m t2 h2 ⟨j, hj, rfl, k34, k35, k36, k3, hn2, hS2⟩
      have hS2' := hS2
      obtain ⟨hlen2, hol2, hp2, hl2, hc2, hb2, ⟨d2, hod2, hO2⟩, hnx2', hmp2⟩ := hS2
      have hnli := hnl i hi
      by_cases hjl : j < (nm i).length
      · have hd : decide (j < (nm i).length) = true := decide_eq_true hjl
        have hkn := hnm i hi (nm i)[j] (List.getElem_mem hjl)
        obtain ⟨id, rfl⟩ : ∃ id, d34 = .sl id (nm i).length ((nm i).map iD) := by
          rcases hd34 with ⟨e, _⟩ | h
          · rw [e] at hjl; exact absurd hjl (Nat.not_lt_zero _)
          · exact h
        have hix : oIxs 1 (.sl id (nm i).length ((nm i).map iD)) (.int .i64 (.ofNat j)) h2 = .ok (.ep (iD (nm i)[j] :: ((nm i).map iD).drop (j + 1))) h2 := oIxs_sl hjl (drop_is hjl)
        have hix2 : oIxs 1 (.row N.l 0 n n) (iD (nm i)[j]) h2 = .ok (.ptr N.l (0 + (nm i)[j] * 1)) h2 := oIxs_row hkn
        have hpat : patch ((setAll ((nm i).take j) bs).map bD) ((nm i)[j] * 1) [.v (.bool true)] = some ((setAll ((nm i).take (j + 1)) bs).map bD) := by
          have hb3 : (nm i)[j] < (setAll ((nm i).take j) bs).length := by rw [hlen2]; exact hkn
          refine patch_at (by simp; omega) ?_
          rw [take_succ_get hjl, setAll_snoc, Nat.mul_one]
          have := set_at (gs := (setAll ((nm i).take j) bs).map bD) (d := bD true) (by simpa using hb3)
          rw [List.map_set]; exact this
        repeat' (with_reducible (first | refine Zk ?_ | refine Zl ?_ | refine ZG ?_ | refine ZF ?_ | refine Zn ?_ | refine Zd ?_ | refine Zm ?_ | refine ZH ?_ | simp (maxSteps := 2000000) (disch := first | omega | (simp only [Z4, Z3]; omega) | fail) only [go_sem, k34, k35, k36, k3, hd, hix, hix2, hpat, hp2, hl2, hc2]))
        refine ⟨(nm i).length - (j + 1), by omega, j + 1, by omega, rfl, ?_, ?_, ?_, ?_, ?_, ?_⟩
        rotate_left 5
        · refine ⟨by rw [setAll_len]; exact hlen, hol2, ?_, ?_, ?_, ?_, ⟨d2, ?_, ?_⟩, by rw [Z3]; exact hnx2', fput_map hmp2⟩
          rotate_left 5
          · rcases hO2 with h | ⟨k2, e1, e2, e3, e4, e5⟩
            · exact .inl h
            · refine .inr ⟨k2, e1, ?_, e3, by rw [Z3]; exact e4, e5⟩
              rw [Yi (by omega)]; exact e2
          all_goals first | exact XQ rfl | (rw [Yi (by omega)]; assumption)
        all_goals first | exact hn2 | simp (maxSteps := 2000000) (disch := first | omega | (simp only [Z4, Z3]; omega) | fail) only [go_sem, k34, k35, k36, k3]
      · have e : j = (nm i).length := by omega
        subst e
        have hd : decide ((nm i).length < (nm i).length) = false := decide_eq_false (by omega)
        repeat' (with_reducible (first | refine Zk ?_ | refine Zl ?_ | refine ZG ?_ | refine ZF ?_ | refine Zn ?_ | refine Zd ?_ | refine Zm ?_ | refine ZH ?_ | simp (maxSteps := 2000000) (disch := first | omega | (simp only [Z4, Z3]; omega) | fail) only [go_sem, k34, k35, k36, k3, hd]))
        rw [List.take_length] at hS2'
        first
          | exact ⟨rfl, hS2', by omega⟩
          | exact ⟨hS2', by omega⟩
    rcases hO with ⟨rfl, rfl⟩ | ⟨k, rfl, ht, hk1, hk2, h0⟩
    · repeat' (with_reducible (first | refine Zk ?_ | refine Zl ?_ | refine ZG ?_ | refine ZF ?_ | refine Zn ?_ | refine Zd ?_ | refine Zm ?_ | refine ZH ?_ | simp (maxSteps := 2000000) (disch := first | omega | (simp only [Z4, Z3]; omega) | fail) only [go_sem, g1, g3, g4, g5, hp, hl, hc, hx, hd1, hod, iD, patch]))
      refine key _ _ ?_ ?_ ?_ ⟨hlen, by simp, ?_, ?_, ?_, ?_, ⟨_, XQ rfl, ?_⟩, by simp only [Z3, Z4]; omega, fput_map (fnew_map (fnew_map hmp))⟩ (by simp only [Z3, Z4]; omega)
      rotate_left 7
      · refine .inr ⟨hh.next + 1, rfl, ?_, by omega, by simp only [Z3, Z4]; omega, by simp⟩
        rw [Yi (by omega)]
        exact hget_new_eq (by simp only [Z4])
      all_goals first | (rw [Yi (by omega), YA (by simp only [Z4]; omega), YA (by omega)]; assumption) | simp (maxSteps := 2000000) (disch := first | omega | (simp only [Z4, Z3]; omega) | fail) only [go_sem, g1, g3, g4, g5, iD]
    · have hap : ∀ H, oTip (some (.tip out.length 3)) 3 1 8 k out.length 1 (out.map iD) [iD i] H = .ok (.sl k (out.length + 1) (out.map iD ++ [iD i])) (W7 H k (.tip (out.length + 1) 3)) := fun H => oTip_ok (by simp) (by omega) (by omega)
      simp only [iD] at hap
      repeat' (with_reducible (first | refine Zk ?_ | refine Zl ?_ | refine ZG ?_ | refine ZF ?_ | refine Zn ?_ | refine Zd ?_ | refine Zm ?_ | refine ZH ?_ | simp (maxSteps := 2000000) (disch := first | omega | (simp only [Z4, Z3]; omega) | fail) only [go_sem, g1, g3, g4, g5, hp, hl, hc, hx, hd1, hod, iD, ht, hap, patch]))
      refine key _ _ ?_ ?_ ?_ ⟨hlen, by simp; omega, ?_, ?_, ?_, ?_, ⟨_, XQ rfl, ?_⟩, by simp only [Z3, Z4]; omega, fput_map (ftip_map (fnew_map hmp))⟩ (by simp only [Z3, Z4]; omega)
      rotate_left 7
      · refine .inr ⟨k, by simp [iD], ?_, hk1, by simp only [Z3, Z4]; omega, by simp⟩
        rw [Yi (by omega), XQ rfl]
        simp
      all_goals first | (rw [Yi (by omega), Yi (by omega), YA (by omega)]; assumption) | simp (maxSteps := 2000000) (disch := first | omega | (simp only [Z4, Z3]; omega) | fail) only [go_sem, g1, g3, g4, g5, iD]
end Run
end Go.Abs
namespace Go.Abs
namespace Run
variable {E : Env} {T : Nat → FFn}
theorem vr_mkf {fn : Fn} {l1 l2 : List (Tr D → D)} {p : D → Tr D → Tr D} {k : FR} {t : Tr D} {h : H} {Q : Aft} {R : Pan} : VR E T (fo (fmkf fn l1 l2) p k) t h Q R ↔ VR E T k (p (.func fn (evs l1 t) (evs l2 t)) t) h Q R := YP fun _ => rfl
attribute [local go_sem] vr_mv vr_len vr_fa vr_nil vr_ext vr_not vr_ixs vr_sl vr_ld1 vr_ldN vr_st vr_alloc vr_box vr_mkmap vr_int vr_pick vr_build Wd vr_look vr_mk vr_app vr_sbin vr_fog vr_end vr_b2s vr_lens vr_slstr vr_cint vd_mv vd_fa vd_nil vd_ext vd_ixs vd_alloc vd_build We vd_ld1 vd_ldN vd_st vd_mset vd_app vd_int vd_end vd_cint vO_ok vD_ok vRd_ok vL_ok vB_t vB_f vG_t vG_f lseq_n lseq_r lseq_e kblk_n kblk_r kblk_e lfn_n lfn_r lloop_n lloop_e lloop_r sC_ok oFa_ptr oFa_ep oNil_ptr oNil_ep oLen_sl oLen_row oLen_nil oExt_0 oExt_1 oExt_2 okq_some oNot_bool oSl_nil rc_ptr rc_ep oRd oEp oLd1_some oLdN_some oSt oInt_int oPick_b XO Xj ffill_nil oFill_some ffill oFind_some oFind_none oOne_some oTwo_some cfin_one cfin_two wanted_b wanted_u evs_nil evs_cons fargs_nil fargs_cons oLens_str oB2s_nil oApp_unf oApp_unil oSame_some Xv loudOk_rdS mem_cons loudT readT sames_one Option.map_some Option.map_none oCint_n cells_int cells_str cells_agg cells_sl cells_row cells_map cells_ptr cells_bool cells_nil one_nil one_cons one_int one_str one_sl one_row one_map one_ptr one_bool one_vnil Yc dneq dlss dgtr W9 iEq_n iLt_n iLe XY blt_dec ble_dec mem_nil readOk_nil readOk_rd loudOk_nil XP Xt add_small List.drop_succ_cons List.drop_zero List.drop_nil List.take_succ_cons List.take_zero List.take_nil List.length_cons List.length_nil List.cons_append List.nil_append Nat.reduceAdd Nat.reduceEqDiff Nat.reduceLeDiff decide_true decide_false Bool.and_self Bool.and_true Bool.true_and Bool.not_true Bool.not_false cond_true cond_false true_and and_true Gt_St p0_eq kD_eq reduceIte Nat.add_zero Nat.zero_add Nat.reduceMul Nat.reduceSub Nat.reduceBEq List.map_cons List.map_nil Z4 Z3 XR YA X7 Yi vr_mkf
def q59_0 : FC := (Z1 <| fo (X0 22 (Gt 0)) (St 1) <| fo (fmv (kD (.v (.slice none 0 0)))) (St 2) <| Z2)
def q59_1 : FC := (Z1 <| fo (Zh (Gt 1)) (St 8) <| fo (u1 ZJ (Gt 8)) (St 9) <| fo (u1 (YC 1) (Gt 9)) (St 10) <| fo (Zh (Gt 10)) (St 11) <| fo (u1 Xl (Gt 11)) (St 12) <| fo (u2 (XK 4 1 1 [(.v (.bool false))]) (Gt 12) (Gt 12)) (St 13) <| fo (Zr 62 [(.v (.slice none 0 0))]) (St 3) <| fo (ZE 1 (Gt 3) (Gt 13)) p0 <| Z2)
def q59_2 : FC := (Z1 <| fo (Zh (Gt 3)) (St 14) <| fo (Zh (Gt 3)) (St 15) <| fo (u1 Xl (Gt 15)) (St 16) <| fo (Zc dsub .sub 3 (.tmp 16) (.const (.int .i64 (.ofNat 1))) (Gt 16) (kD (.int .i64 (.ofNat 1)))) (St 17) <| fo (u2 (r_ixs 1) (Gt 14) (Gt 17)) (St 18) <| fo (ZE 1 (Gt 18) (kD (.v (.bool true)))) p0 <| Z2)
def q59_3 : FC := (Z1 <| fo (Zr 57 [(.v (.slice none 0 0))]) (St 4) <| Z2)
def q59_4 : FC := (Z1 <| fo (Zh (Gt 3)) (St 19) <| fo (Zo 69 [(Gt 19)]) (St 20) <| Z2)
def k105 : FFn := ffn [St 0, St 1, St 2, St 3, St 4, St 5, St 6, St 7, St 8, St 9, St 10, St 11] (fun t h => .ok (Gt 2 t) h) (Z0 (Z1 <| fo (X0 62 (Gt 0)) (St 1) <| fo (fmv (kD (.v .nilFunc))) (St 2) <| Z2) (Z0 (Z1 <| fo (fmkf (.func 110) [] [(Gt 1)]) (St 3) <| fo (fmv (Gt 3)) (St 2) <| Z2) Ze))
theorem sub_small' {m n : Nat} (h1 : n ≤ m) (h2 : m ≤ 9223372036854775807) : dsub .i64 (.ofNat m) (.ofNat n) = .int .i64 (.ofNat (m - n)) := by
  have e : iSub (.ofNat m) (.ofNat n) = .ofNat (m - n) := by rw [iSub_eq]; simp only [Int.ofNat_eq_natCast]; omega
  rw [dsub, e, wrap_ok (by omega)]
def bs0 (n : Nat) : List Bool := (List.replicate n false).set (n - 1) true
theorem oMk_rowN {n : Nat} {h : H} (hn : n ≤ 1000000) : oMk (E := E) 4 1 1 [.v (.bool false)] (.int .i64 (.ofNat n)) (.int .i64 (.ofNat n)) h = .ok (.row h.next 0 n n) (W8 h (.cells 4 ((List.replicate n false).map bD))) := by
  rw [oMk_row (by omega) (by omega)]
  congr 2
  have : ∀ m, XG [D.v (.bool false)] m = (List.replicate m false).map bD := by
    intro m
    induction m with
    | zero => rfl
    | succ m ih => rw [XG, ih, List.replicate_succ]; rfl
  rw [this]
def hU (F : D) (n : Nat) : H :=
  W8 (W8 (W7 (W7 (W8 (W8 (W8 hTop (.cells 22 [F])) (.cells 4 ((List.replicate n false).map bD))) (.cells 62 [.v (.slice none 0 0)])) 3 (.cells 62 [.row 2 0 n n])) 2 (.cells 4 ((bs0 n).map bD))) (.cells 57 [.v (.slice none 0 0)])) (.cells 62 [.row 2 0 n n])
structure TU (F : D) (n : Nat) (t : Tr D) : Prop where
  g1 : Gt 1 t = .ptr 1 0
  g3 : Gt 3 t = .ptr 3 0
  g4 : Gt 4 t = .ptr 4 0
  g20 : Gt 20 t = .func (.func 110) [] [.ptr 5 0]
theorem next0 : hTop.next = 1 := rfl
theorem cells_ep {cs : List D} : (D.ep cs).cells = [.ep cs] := rfl
set_option maxHeartbeats 4000000 in
theorem pre_ok (h105 : T 69 = k105) (F c0 : D) (ss rest : List D) (n : Nat) (hF : F = .ep (c0 :: .sl 0 n ss :: rest)) (hn0 : 0 < n) (hn : n ≤ 100000) (t : Tr D) (g0 : Gt 0 t = F) :
    VP E T q59_0 t hTop (fun e t0 h0 => e = .normal ∧ VP E T q59_1 t0 h0 (fun e t1 h1 => e = .normal ∧ VP E T q59_2 t1 h1 (fun e t2 h2 => e = .normal ∧ VP E T q59_3 t2 h2 (fun e t3 h3 => e = .normal ∧ VP E T q59_4 t3 h3 (fun e t4 h4 => e = .normal ∧ h4 = hU F n ∧ TU F n t4) noPan) noPan) noPan) noPan) noPan := by
  have hT0 : hTop.next = 1 := rfl
  have hmk := fun h => oMk_rowN (E := E) (n := n) (h := h) (by omega)
  have hsub : dsub .i64 (.ofNat n) (.ofNat 1) = .int .i64 (.ofNat (n - 1)) := sub_small' (by omega) (by omega)
  have hix : ∀ h, oIxs 1 (.row 2 0 n n) (.int .i64 (.ofNat (n - 1))) h = .ok (.ptr 2 (0 + (n - 1) * 1)) h := fun h => oIxs_row (by omega)
  have hpat : patch ((List.replicate n false).map bD) ((n - 1) * 1) [.v (.bool true)] = some ((bs0 n).map bD) := by
    refine patch_at (by simp; omega) ?_
    rw [Nat.mul_one]
    have := set_at (gs := (List.replicate n false).map bD) (d := bD true) (i := n - 1) (by simp; omega)
    unfold bs0
    rw [List.map_set]; exact this
  unfold q59_0
  repeat' (with_reducible (first | refine Zk ?_ | refine Zl ?_ | refine ZG ?_ | refine ZF ?_ | refine Zn ?_ | refine Zd ?_ | refine Zm ?_ | refine ZH ?_ | simp (maxSteps := 2000000) (disch := first | omega | (simp only [Z4, Z3]; omega) | fail) only [go_sem, g0, hF, next0, cells_ep]))
  try refine ⟨rfl, ?_⟩
  unfold q59_1
  repeat' (with_reducible (first | refine Zk ?_ | refine Zl ?_ | refine ZG ?_ | refine ZF ?_ | refine Zn ?_ | refine Zd ?_ | refine Zm ?_ | refine ZH ?_ | simp (maxSteps := 2000000) (disch := first | omega | (simp only [Z4, Z3]; omega) | fail) only [go_sem, hmk, next0, patch, cells_ep]))
  try refine ⟨rfl, ?_⟩
  unfold q59_2
  repeat' (with_reducible (first | refine Zk ?_ | refine Zl ?_ | refine ZG ?_ | refine ZF ?_ | refine Zn ?_ | refine Zd ?_ | refine Zm ?_ | refine ZH ?_ | simp (maxSteps := 2000000) (disch := first | omega | (simp only [Z4, Z3]; omega) | fail) only [go_sem, hsub, hix, hpat, next0, cells_ep]))
  try refine ⟨rfl, ?_⟩
  unfold q59_3
  repeat' (with_reducible (first | refine Zk ?_ | refine Zl ?_ | refine ZG ?_ | refine ZF ?_ | refine Zn ?_ | refine Zd ?_ | refine Zm ?_ | refine ZH ?_ | simp (maxSteps := 2000000) (disch := first | omega | (simp only [Z4, Z3]; omega) | fail) only [go_sem, next0, cells_ep]))
  try refine ⟨rfl, ?_⟩
  unfold q59_4
  repeat' (with_reducible (first | refine Zk ?_ | refine Zl ?_ | refine ZG ?_ | refine ZF ?_ | refine Zn ?_ | refine Zd ?_ | refine Zm ?_ | refine ZH ?_ | simp (maxSteps := 2000000) (disch := first | omega | (simp only [Z4, Z3]; omega) | fail) only [go_sem, next0, cells_ep]))
  refine Zy ?_
  refine Ya h105 ?_
  repeat' (with_reducible (first | refine Zk ?_ | refine Zl ?_ | refine ZG ?_ | refine ZF ?_ | refine Zn ?_ | refine Zd ?_ | refine Zm ?_ | refine ZH ?_ | simp (maxSteps := 2000000) (disch := first | omega | (simp only [Z4, Z3]; omega) | fail) only [go_sem, next0, cells_ep]))
  refine ⟨rfl, ⟨?_, ?_, ?_, ?_⟩⟩ <;> simp (maxSteps := 2000000) (disch := first | omega | (simp only [Z4, Z3]; omega) | fail) only [go_sem]
end Run
end Go.Abs
