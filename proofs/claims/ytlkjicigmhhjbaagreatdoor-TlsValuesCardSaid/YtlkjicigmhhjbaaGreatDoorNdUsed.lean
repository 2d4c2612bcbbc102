/- The range over slices.Backward of a []bool: what the function that it hands out does. -/
import Derived.RangeFuncNested
import Derived.RangeFuncBound
import Derived.RangeFuncCalls
import Derived.RangeFuncLeaves
import Derived.Shelf.Abstract
import Derived.Shelf.RegionOpen
import Derived.WalkKit
import Derived.OwnWalkIn
import Derived.TacticsInMore
import Derived.LoopNIn
import Derived.LoopIn
import Derived.Test.YtlkjicigmhhjbaaGreatDoorProg
import Derived.Test.YtlkjicigmhhjbaaGreatDoorNdCall
import Derived.Shelf.RegionOpenPlain
import Derived.Deep.LoopGhost
import Derived.Lib.Walk
import Derived.Sort.WalkB12
import Derived.Lib.SlicesMore
import Derived.Lib.ConvBytes
import Derived.Lib.OwnBridge
import Derived.Test.YtlkjicigmhhjbaaGreatDoorNdWay
import Derived.Test.YtlkjicigmhhjbaaGreatDoorNdFast
set_option linter.unusedVariables false
set_option linter.unusedSimpArgs false
namespace Go.Proofs.Bk
open Go.RowKit Go.Shelf Go.Abs
attribute [local go_sem] Oper.semAt_some
def Z6t (len : Nat) : Nat → List Nat
  | 0 => []
  | k + 1 => Z6t len k ++ [len - 1 - k]
theorem Zug (len : Nat) : ∀ k, k ≤ len → Z6t (len + 1) (k + 1) = len :: Z6t len k
  | 0, _ => by simp [Z6t]
  | k + 1, h => by
    rw [Z6t, Zug len k (by omega), Z6t]
    simp
    omega
theorem Zoi : ∀ len, Z6t len len = Zjn len
  | 0 => rfl
  | n + 1 => by rw [Zug n n (Nat.le_refl _), Zoi n]; rfl
set_option maxRecDepth 100000 in
set_option maxHeartbeats 2000000 in
theorem Zk1 (F : Fence) (n : Nat) (h7 : F.fn 107) (hro : F.round = none) (hn : 1 ≤ n) (l rb rl off len cap : Nat) (hreach : len ≤ 1000000) (J Jx : List (Elt len) → World → Prop)
    (hY : ∀ pre x W, J pre W → pre.length < len → YieldAt F (n - 1) Tryz.prog l #[.int .i64 (x.1.1 : Int), .bool x.1.2] W fun e W' =>
      (e = .returned (.bool true) ∧ J (pre ++ [x]) W' ∧ (Hd rb rl off len cap W → Hd rb rl off len cap W')) ∨ (e = .returned (.bool false) ∧ Jx (pre ++ [x]) W'))
    (W : World) (hH : Hd rb rl off len cap W) (h0 : J [] W) :
    CallsIn F n Tryz.prog 107 #[.func (.yield l) #[] #[], .pointer (some ⟨rb, 0, none⟩)] W fun e W' => (∃ v, e = .returned v) ∧
      ((∃ ys, ys.map (·.1.1) = Z6t len len ∧ J ys W') ∨ (∃ pre, True ∧ Jx pre W')) := by
  refine callsIn_of_wp Tryz.func107 rfl h7 ?_ hro
  simp only [Tryz.ntmps107, List.size_toArray, List.length_cons, List.length_nil, Nat.reduceAdd, Nat.reduceSub, Array.replicate_succ, Array.replicate_zero, List.push_toArray, List.append_toArray, List.nil_append, List.cons_append]
  have hBs := hH.hdr
  gi_wp2
  gi_loopw [3] (fun i wr => ∃ k : Nat, ∃ ys : List (Elt len), k ≤ len ∧ i = .int .i64 ((len : Int) - 1 - k) ∧ ys.map (·.1.1) = Z6t len k ∧ ys.length = k ∧ J ys wr ∧ Hd rb rl off len cap wr)
    (fun i _ => (intOf i + 1).toNat)
  case atStart => exact ⟨0, [], Nat.zero_le _, by simp, rfl, rfl, h0, hH⟩
  case round =>
    obtain ⟨k, ys, hk, rfl, hys, hyl, hJs, hHr⟩ := hrel
    have hBs' := hHr.hdr
    by_cases hlt : k < len
    · obtain ⟨j, hj⟩ : ∃ j : Nat, len - 1 - k = j := ⟨_, rfl⟩
      have hji : (len : Int) - 1 - k = (j : Int) := by omega
      have hjl : j < len := by omega
      obtain ⟨v, hc1⟩ := hHr.cells j hjl
      obtain ⟨fn, tmps, assign, body, hy, hR⟩ := hY _ ⟨(j, v), hjl⟩ wr hJs (by omega)
      dsimp only at hy
      rw [hji]
      gi_wp2
      refine hR.mono ?_
      rintro e W3 (⟨rfl, hJ3, hk3⟩ | ⟨rfl, hJx3⟩)
      · have hH3 := hk3 hHr
        gi_wp2
        go_roundw
        case rel => exact ⟨k + 1, ys ++ [⟨(j, v), hjl⟩], by omega, by simp; omega, by rw [List.map_append, hys, Z6t, hj]; rfl, by simp; omega, hJ3, hH3⟩
        case measure => simp [intOf] <;> omega
      · gi_wp2
        refine bodyPost_ret (results_none rfl _ _ _) rfl ?_
        exact ⟨⟨_, rfl⟩, .inr ⟨_, trivial, hJx3⟩⟩
    · obtain rfl : k = len := by omega
      have : (k : Int) - 1 - k = -1 := by omega
      rw [this]
      gi_wp2
      go_end0
      exact ⟨⟨_, rfl⟩, .inl ⟨ys, hys, hJs⟩⟩
theorem back_seq : Z0x Tryz.prog 107 := by
  intro rb rl off len cap w hlen hw l J Jx W hb hJa hJxa hY h0
  have hH : Hd rb rl off len cap W := ⟨(hb.cell (World.block_lt_of_cell? w _ hw.hdr)).trans hw.hdr, fun j hj => by
    obtain ⟨v, hv⟩ := hw.cells j hj
    exact ⟨v, (hb.cell (World.block_lt_of_cell? w _ hv)).trans hv⟩⟩
  refine (Zk1 Fence.wide 2 trivial rfl (by decide) l rb rl off len cap hlen J Jx hY W hH h0).mono ?_
  rintro e W' ⟨he, ⟨ys, h1, h2⟩ | ⟨pre, _, h2⟩⟩
  · exact ⟨he, .inl ⟨ys, h1.trans (Zoi len), h2⟩⟩
  · exact ⟨he, .inr ⟨pre, trivial, h2⟩⟩
end Go.Proofs.Bk
namespace Go.Proofs.RevW
open Go.Shelf Go.RowKit Go.Lib Go.Sort
abbrev encI (b : Int) : Value := .int .i64 b
set_option maxHeartbeats 1600000 in
set_option maxRecDepth 1000000 in
theorem rev_ints (blk off cap : Nat) (d : Array Int) (w : World) (hH : Holds encI w blk off d) (hsz : d.size ≤ 9223372036854775807) :
    Calls Tryz.prog 80 #[.slice (some ⟨blk, off, none⟩) d.size cap] w fun e w' => e = .returned (.tuple #[]) ∧ ∃ n, w' = putRow encI (Sort.ahead w n) blk off d.reverse := by
  have mixed : Tryz.prog.follows .mixedOrders = true := by kernel_rfl
  go_enter Tryz.func80, Tryz.ntmps80
  go_wp2
  go_loopg [2, 3] d.size (fun k s2 s3 wr => ∃ (i jn : Nat) (jz : Int) (dk : Array Int) (n : Nat), s2 = .int .i64 i ∧ s3 = .int .i64 jz ∧ ((i : Int) < jz → jz = jn ∧ jn < d.size) ∧ (¬ (i : Int) < jz → ¬ i < jn) ∧ jn - i ≤ k ∧
    dk.size = d.size ∧ wr = putRow encI (Sort.ahead w n) blk off dk ∧ reverseLoop i jn dk = reverseLoop 0 (d.size - 1) d)
  case atStart => exact ⟨0, d.size - 1, (d.size : Int) - 1, d, 0, rfl, rfl, fun h => ⟨by omega, by omega⟩, fun h => by omega, by omega, rfl, (putRow_self encI w blk off d hH).symm, rfl⟩
  case round =>
    obtain ⟨i, jn, jz, dk, n, rfl, rfl, h1, h2, hk, hds, hwr, heq⟩ := hrel
    by_cases hlt : (i : Int) < jz
    · obtain ⟨rfl, hjn⟩ := h1 hlt
      have hij : i < jn := by omega
      have hHk : Holds encI wr blk off dk := by rw [hwr]; exact holds_putRow encI _ blk off d dk (holds_ahead encI w n blk off d hH) hds
      obtain ⟨ci, fi⟩ := hHk i (by omega)
      obtain ⟨cj, fj⟩ := hHk jn (by omega)
      have A : Aside (wr = putRow encI (Sort.ahead w n) blk off dk) := hwr
      clear hwr hHk hH h1 h2
      go_wp2_with fail
      go_region_o
      go_wp2
      go_roundg (jn - 1 - (i + 1))
      case measure => omega
      case rel =>
        rw [reverseLoop, if_pos hij] at heq
        exact ⟨i + 1, jn - 1, (jn : Int) - 1, swp dk i jn, n + 1, by simp, rfl, fun h => ⟨by omega, by omega⟩, fun h => by omega, Nat.le_refl _, by rw [size_swp]; exact hds,
          swap_world encI (by omega) (by omega) A.out (by first | rfl | simp [encI, getElem!_pos, show jn < dk.size by omega]) (by first | rfl | simp [encI, getElem!_pos, show i < dk.size by omega]), heq⟩
    · have hnot := h2 hlt
      go_wp2
      go_end0
      refine ⟨rfl, n, ?_⟩
      rw [reverseLoop, if_neg hnot] at heq
      rw [← Lib.reverseLoop_reverse, ← heq]
end Go.Proofs.RevW
namespace Go.Abs
noncomputable section
namespace Run
variable {E : Env} {T : Nat → ZE}
attribute [local go_sem] Zny Zib Zn1 Zh9 Zih Zh8 Zie Znx Zid Zic Znw Zbi Zij Zbg Zif Zeg Zbh Vh Zeh Znz Zil Zef Zig Zii Zik Zei Zbf Zej Zn5 Zoa Zim Zir Zip Zbk Zbj Vi Zio Zin Zn2 Zek Zit Ziq Zis Zel Zof Zoh Ziu Zog Zxo Zxp Zxm Zxn Zjc Zjb Zjd Zjj Zji Zjk Zpw Zpv Zfc Zfd Zfb Zot Ze9 Zi5 Zby Ze6 Ze7 Zbz Zb0 Zi8 Zi7 Zi6 Zbv Ux Zc1 Zi2 Zo8 oRd Z2a UA Uz oSt Zb1 Ze5 WS We UD Vp U5 Vn Vo Uw Uv Zcg Zcf Zt9 Zbe Zfk Zcb UE Vs Uy Zb2 Zkl Zhd Vm Ws Vq mem_cons Zpq Zo7 Uo Option.map_some Option.map_none Zfa UK UF UL Zch UG UJ UH Vt UI Ze2 Zbt Ze4 Zez Zi4 Ze0 Ze3 Ze1 Zbu Zbs ZX U6 Vc WW XH Zp3 Zp2 Z51 V5 Zaf Zfo Zc3 Vk Uq Vr WT Wp UN List.drop_succ_cons List.drop_zero List.drop_nil List.take_succ_cons List.take_zero List.take_nil List.length_cons List.length_nil List.cons_append List.nil_append Nat.reduceAdd Nat.reduceEqDiff Nat.reduceLeDiff decide_true decide_false Bool.and_self Bool.and_true Bool.true_and Bool.not_true Bool.not_false cond_true cond_false true_and and_true Zg4 Zpg Zpz reduceIte Nat.add_zero Nat.zero_add Nat.reduceMul Nat.reduceSub Nat.reduceBEq List.map_cons List.map_nil Zm Zl WV YG Xu Yn
def qbB : FC := (Z0 (Z1 <| fo (ZJ (Gt 1)) (St 32) <| fo (Yf (Gt 5)) (St 33) <| fo (Z9 79 [(Gt 32), (Gt 33)]) (St 34) <| fo (u1 V6 (Gt 34)) (St 35) <| fo (Yf (kD (.int .i64 (.ofNat 0)))) (St 36) <| Z2)
 (Zc 2 (ZI (Z0 (Z1 <| fo (Zd Vc .lss 3 (.tmp 36) (.tmp 35) (Gt 36) (Gt 35)) (St 37) <| Z2)
 (Z0 (Z7 (Gt 37) Z8 (ZL 2))
 (Z0 (Zc 3 (Z0 (Z1 <| fo (u2 (Vw 1) (Gt 34) (Gt 36)) (St 38) <| fo (ZJ (Gt 38)) (St 39) <| fo (Yf (Gt 39)) (St 7) <| Z2)
 (Z1 <| fo (ZJ (Gt 3)) (St 40) <| fo (Yf (Gt 7)) (St 41) <| fo (u2 (Vw 1) (Gt 40) (Gt 41)) (St 42) <| fo (Ze 1 (Gt 42) (kD (.v (.bool true)))) p0 <| Z2)))
 (Z1 <| fo (Zd Y2 .add 3 (.tmp 36) (.const (.int .i64 (.ofNat 1))) (Gt 36) (kD (.int .i64 (.ofNat 1)))) (St 43) <| fo (Yf (Gt 43)) (St 36) <| Z2)))))))
def Z8t : FC := (Zc 1 (Z0 (Z0 (Z1 <| fo (ZJ (Gt 3)) (St 23) <| fo (Yf (Gt 5)) (St 24) <| fo (u2 (Vw 1) (Gt 23) (Gt 24)) (St 25) <| fo (ZJ (Gt 25)) (St 26) <| fo (u1 (Zo9 .not) (Gt 26)) (St 27) <| Z2)
 (Z7 (Gt 27) (ZL 1) Z8))
 (Z0 (Z1 <| fo (ZJ (Gt 4)) (St 28) <| fo (Yf (Gt 5)) (St 29) <| fo (Zn 3 1 [(.int .i64 (.ofNat 0))] [(0, 1, (Gt 29))]) (St 30) <| fo (u2 (YE 3 1 8) (Gt 28) (Gt 30)) (St 31) <| fo (Ze 1 (Gt 4) (Gt 31)) p0 <| Z2)
 qbB)))
def bD (b : Bool) : D := .v (.bool b)
def iD (n : Nat) : D := .int .i64 (.ofNat n)
def Un : List Nat → List Bool → List Bool
  | [], bs => bs
  | k :: r, bs => Un r (bs.set k true)
theorem Zos : ∀ (l : List Nat) (bs : List Bool), (Un l bs).length = bs.length
  | [], _ => rfl
  | k :: r, bs => by rw [Un, Zos r]; simp
def Zai (nm : Nat → List Nat) (s : List Bool × List Nat) (i : Nat) : List Bool × List Nat :=
  bif s.1.getD i false then (Un (nm i) s.1, s.2 ++ [i]) else s
structure Nms where
  p : Nat
  l : Nat
  c : Nat
  o : Nat
  b : Nat
  base : Nat
structure Nms.Ok (N : Nms) : Prop where
  ne : N.p ≠ N.l ∧ N.p ≠ N.c ∧ N.p ≠ N.o ∧ N.p ≠ N.b ∧ N.l ≠ N.c ∧ N.l ≠ N.o ∧ N.l ≠ N.b ∧ N.c ≠ N.o ∧ N.c ≠ N.b ∧ N.o ≠ N.b
  lt : N.p < N.base ∧ N.l < N.base ∧ N.c < N.base ∧ N.o < N.base ∧ N.b < N.base
def OutD (N : Nms) (hh : H) (out : List Nat) (d : D) : Prop := (out = [] ∧ d = .v (.slice none 0 0)) ∨ ∃ k, d = .sl k out.length (out.map iD) ∧ hget hh.mem k = some (.tip out.length 3) ∧ N.base ≤ k ∧ k < hh.next ∧ 0 < out.length
structure StU (N : Nms) (F : D) (n : Nat) (bs : List Bool) (out : List Nat) (hh : H) : Prop where
  len : bs.length = n
  outl : out.length ≤ 100000
  p : hget hh.mem N.p = some (.cells 53 [F])
  l : hget hh.mem N.l = some (.cells 4 (bs.map bD))
  c : hget hh.mem N.c = some (.cells 163 [.row N.l 0 n n])
  b : hget hh.mem N.b = some (.cells 163 [.row N.l 0 n n])
  o : ∃ d, hget hh.mem N.o = some (.cells 37 [d]) ∧ OutD N hh out d
  nx : N.base ≤ hh.next
  maps : ∀ j es, hget hh.mem j ≠ some (.map es)
theorem drop_bs {bs : List Bool} {i : Nat} (h : i < bs.length) : (bs.map bD).drop (i * 1) = bD bs[i] :: (bs.map bD).drop (i + 1) := by
  rw [Nat.mul_one, List.drop_eq_getElem_cons (by simpa using h)]; simp
theorem drop_is {l : List Nat} {i : Nat} (h : i < l.length) : (l.map iD).drop (i * 1) = iD l[i] :: (l.map iD).drop (i + 1) := by
  rw [Nat.mul_one, List.drop_eq_getElem_cons (by simpa using h)]; simp
theorem Zgu {h : H} {l : Nat} {ty : TypeId} {cs : List D} (hm : ∀ j es, hget h.mem j ≠ some (.map es)) : ∀ j es, hget (Wq h l (.cells ty cs)).mem j ≠ some (.map es) := by
  intro j es
  by_cases e : j = l
  · rw [WU e]; intro h; cases h
  · rw [Yn e]; exact hm j es
theorem Z53 {h : H} {l n : Nat} {e : TypeId} (hm : ∀ j es, hget h.mem j ≠ some (.map es)) : ∀ j es, hget (Wq h l (.tip n e)).mem j ≠ some (.map es) := by
  intro j es
  by_cases e : j = l
  · rw [WU e]; intro h; cases h
  · rw [Yn e]; exact hm j es
theorem Zp5 {h : H} {n : Nat} {e : TypeId} (hm : ∀ j es, hget h.mem j ≠ some (.map es)) : ∀ j es, hget (WJ h (.tip n e)).mem j ≠ some (.map es) := by
  intro j es
  by_cases e : j = h.next
  · rw [VA e]; intro h; cases h
  · rw [YG e]; exact hm j es
def LI (N : Nms) (F : D) (n : Nat) (out : List Nat) (d34 : D) (l : List Nat) (Zxg : List Bool) (nx : Nat) (_ : Tr D) (_ : H) (m : Nat) (t : Tr D) (h : H) : Prop :=
  ∃ i, i ≤ l.length ∧ m = l.length - i ∧ Gt 34 t = d34 ∧ Gt 35 t = .int .i64 (.ofNat l.length) ∧ Gt 36 t = .int .i64 (.ofNat i) ∧ Gt 3 t = .ptr N.c 0 ∧ h.next = nx ∧ StU N F n (Un (l.take i) Zxg) out h
theorem Zqw {l : List Nat} {j : Nat} (h : j < l.length) : l.take (j + 1) = l.take j ++ [l[j]] := by
  rw [List.take_add_one, List.getElem?_eq_getElem h]; rfl
theorem Zux (l : List Nat) (k : Nat) : ∀ bs, Un (l ++ [k]) bs = (Un l bs).set k true := by
  induction l with
  | nil => intro bs; rfl
  | cons a r ih => intro bs; exact ih _
set_option maxHeartbeats 4000000 in
theorem Z4w (N : Nms) (hN : N.Ok) (F : D) (n : Nat) (nm : Nat → List Nat) (hnm : ∀ i, i < n → ∀ k ∈ nm i, k < n) (hnl : ∀ i, i < n → (nm i).length ≤ 1000000)
    (hcall : ∀ i, i < n → ∀ h, VC E T 79 [F, iD i] h (fun d h' => h' = h ∧ ((nm i = [] ∧ d = .v (.slice none 0 0)) ∨ ∃ id, d = .sl id (nm i).length ((nm i).map iD))) Zc2)
    (bs : List Bool) (out : List Nat) (hh : H) (hS : StU N F n bs out hh) (i : Nat) (hi : i < n) (ho : out.length + 1 ≤ 100000) (t : Tr D) (g1 : Gt 1 t = .ptr N.p 0) (g3 : Gt 3 t = .ptr N.c 0) (g4 : Gt 4 t = .ptr N.o 0) (g5 : Gt 5 t = iD i) :
    VP E T Z8t t hh (fun e t' h' => e = .normal ∧ StU N F n (Zai nm (bs, out) i).1 (Zai nm (bs, out) i).2 h' ∧ h'.next ≤ hh.next + 2) Zc2 := by
  obtain ⟨⟨n1, n2, n3, n4, n5, n6, n7, n8, n9, n10⟩, q1, q2, q3, q4, q5⟩ := hN
  obtain ⟨hlen, hol, hp, hl, hc, hb, ⟨d, hod, hO⟩, hnx, hmp⟩ := hS
  have hib : i < bs.length := by omega
  have hx : Zgl 1 (.row N.l 0 n n) (iD i) hh = .ok (.ptr N.l (0 + i * 1)) hh := Zpl hi
  have hd1 := drop_bs hib
  have hgd : bs.getD i false = bs[i] := by simp [List.getD_eq_getElem?_getD, List.getElem?_eq_getElem hib]
  have hr1 : oRd (some (.cells 4 (bs.map bD))) (i * 1) 1 = some [bD bs[i]] := oRd_at (by rw [hd1]; rfl) rfl
  unfold Z8t
  repeat' (with_reducible (first | refine ZA ?_ | refine ZB ?_ | refine ZQ ?_ | refine ZP ?_ | refine ZD ?_ | refine Zt ?_ | refine ZC ?_ | refine ZR ?_ | simp (maxSteps := 2000000) (disch := first | omega | (simp only [Zm, Zl]; omega) | fail) only [go_sem, g1, g3, g4, g5, hp, hl, hc, hx, hd1]))
  simp only [bD]
  cases hbi : bs[i] with
  | false =>
    repeat' (with_reducible (first | refine ZA ?_ | refine ZB ?_ | refine ZQ ?_ | refine ZP ?_ | refine ZD ?_ | refine Zt ?_ | refine ZC ?_ | refine ZR ?_ | simp (maxSteps := 2000000) (disch := first | omega | (simp only [Zm, Zl]; omega) | fail) only [go_sem, g1, g3, g4, g5, hp, hl, hc, hx, hd1]))
    have e : Zai nm (bs, out) i = (bs, out) := by simp only [Zai, hgd, hbi, cond_false]
    rw [e]
    first
      | exact ⟨rfl, ⟨hlen, hol, hp, hl, hc, hb, ⟨d, hod, hO⟩, hnx, hmp⟩, by omega⟩
      | exact ⟨⟨hlen, hol, hp, hl, hc, hb, ⟨d, hod, hO⟩, hnx, hmp⟩, by omega⟩
  | true =>
    have e : Zai nm (bs, out) i = (Un (nm i) bs, out ++ [i]) := by simp only [Zai, hgd, hbi, cond_true]
    rw [e]
    have key : ∀ (t : Tr D) (h : H), Gt 1 t = .ptr N.p 0 → Gt 3 t = .ptr N.c 0 → Gt 5 t = iD i → StU N F n bs (out ++ [i]) h → h.next ≤ hh.next + 2 →
        VP E T qbB t h (fun e t' h' => Z2v 1 (fun e t' h' => e = .normal ∧ StU N F n (Un (nm i) bs) (out ++ [i]) h' ∧ h'.next ≤ hh.next + 2) e t' h') Zc2 := by
      intro t h g1 g3 g5 hS hnx2
      obtain ⟨hlen, hol, hp, hl, hc, hb, ⟨d, hod, hO⟩, hnx, hmp⟩ := hS
      have hS : StU N F n bs (out ++ [i]) h := ⟨hlen, hol, hp, hl, hc, hb, ⟨d, hod, hO⟩, hnx, hmp⟩
      unfold qbB
      repeat' (with_reducible (first | refine ZA ?_ | refine ZB ?_ | refine ZQ ?_ | refine ZP ?_ | refine ZD ?_ | refine Zt ?_ | refine ZC ?_ | refine ZR ?_ | simp (maxSteps := 2000000) (disch := first | omega | (simp only [Zm, Zl]; omega) | fail) only [go_sem, g1, g3, g5, hp, hl, hc]))
      refine ZO ?_
      simp only [go_sem]
      refine (hcall i hi h).mono ?_ (fun _ _ h => h.elim)
      rintro d34 h' ⟨rfl, hd34⟩
      have hlen34 : Zgk d34 h' = .ok (.int .i64 (.ofNat (nm i).length)) h' := by
        rcases hd34 with ⟨e, rfl⟩ | ⟨id, rfl⟩
        · rw [e]; rfl
        · rfl
      repeat' (with_reducible (first | refine ZA ?_ | refine ZB ?_ | refine ZQ ?_ | refine ZP ?_ | refine ZD ?_ | refine Zt ?_ | refine ZC ?_ | refine ZR ?_ | simp (maxSteps := 2000000) (disch := first | omega | (simp only [Zm, Zl]; omega) | fail) only [go_sem, g1, g3, g5, hp, hl, hc, hlen34]))
      refine Z25 (LI N F n (out ++ [i]) d34 (nm i) bs h'.next) (nm i).length ?_ ?_
      · refine ⟨0, Nat.zero_le _, rfl, ?_, ?_, ?_, ?_, rfl, hS⟩
        all_goals simp (maxSteps := 2000000) (disch := first | omega | (simp only [Zm, Zl]; omega) | fail) only [go_sem, g3]
      rintro m t2 h2 ⟨j, hj, rfl, k34, k35, k36, k3, hn2, hS2⟩
      have hS2' := hS2
      obtain ⟨hlen2, hol2, hp2, hl2, hc2, hb2, ⟨d2, hod2, hO2⟩, hnx2', hmp2⟩ := hS2
      have hnli := hnl i hi
      by_cases hjl : j < (nm i).length
      · have hd : decide (j < (nm i).length) = true := decide_eq_true hjl
        have hkn := hnm i hi (nm i)[j] (List.getElem_mem hjl)
        obtain ⟨id, rfl⟩ : ∃ id, d34 = .sl id (nm i).length ((nm i).map iD) := by
          rcases hd34 with ⟨e, _⟩ | h
          · rw [e] at hjl; exact absurd hjl (Nat.not_lt_zero _)
          · exact h
        have hix : Zgl 1 (.sl id (nm i).length ((nm i).map iD)) (.int .i64 (.ofNat j)) h2 = .ok (.ep (iD (nm i)[j] :: ((nm i).map iD).drop (j + 1))) h2 := Ze8 hjl (drop_is hjl)
        have hix2 : Zgl 1 (.row N.l 0 n n) (iD (nm i)[j]) h2 = .ok (.ptr N.l (0 + (nm i)[j] * 1)) h2 := Zpl hkn
        have hpat : patch ((Un ((nm i).take j) bs).map bD) ((nm i)[j] * 1) [.v (.bool true)] = some ((Un ((nm i).take (j + 1)) bs).map bD) := by
          have hb3 : (nm i)[j] < (Un ((nm i).take j) bs).length := by rw [hlen2]; exact hkn
          refine Zvy (by simp; omega) ?_
          rw [Zqw hjl, Zux, Nat.mul_one]
          have := Z39 (gs := (Un ((nm i).take j) bs).map bD) (d := bD true) (by simpa using hb3)
          rw [List.map_set]; exact this
        repeat' (with_reducible (first | refine ZA ?_ | refine ZB ?_ | refine ZQ ?_ | refine ZP ?_ | refine ZD ?_ | refine Zt ?_ | refine ZC ?_ | refine ZR ?_ | simp (maxSteps := 2000000) (disch := first | omega | (simp only [Zm, Zl]; omega) | fail) only [go_sem, k34, k35, k36, k3, hd, hix, hix2, hpat, hp2, hl2, hc2]))
        refine ⟨(nm i).length - (j + 1), by omega, j + 1, by omega, rfl, ?_, ?_, ?_, ?_, ?_, ?_⟩
        rotate_left 5
        · refine ⟨by rw [Zos]; exact hlen, hol2, ?_, ?_, ?_, ?_, ⟨d2, ?_, ?_⟩, by rw [Zl]; exact hnx2', Zgu hmp2⟩
          rotate_left 5
          · rcases hO2 with h | ⟨k2, e1, e2, e3, e4, e5⟩
            · exact .inl h
            · refine .inr ⟨k2, e1, ?_, e3, by rw [Zl]; exact e4, e5⟩
              rw [Yn (by omega)]; exact e2
          all_goals first | exact WU rfl | (rw [Yn (by omega)]; assumption)
        all_goals first | exact hn2 | simp (maxSteps := 2000000) (disch := first | omega | (simp only [Zm, Zl]; omega) | fail) only [go_sem, k34, k35, k36, k3]
      · have e : j = (nm i).length := by omega
        subst e
        have hd : decide ((nm i).length < (nm i).length) = false := decide_eq_false (by omega)
        repeat' (with_reducible (first | refine ZA ?_ | refine ZB ?_ | refine ZQ ?_ | refine ZP ?_ | refine ZD ?_ | refine Zt ?_ | refine ZC ?_ | refine ZR ?_ | simp (maxSteps := 2000000) (disch := first | omega | (simp only [Zm, Zl]; omega) | fail) only [go_sem, k34, k35, k36, k3, hd]))
        rw [List.take_length] at hS2'
        first
          | exact ⟨rfl, hS2', by omega⟩
          | exact ⟨hS2', by omega⟩
    rcases hO with ⟨rfl, rfl⟩ | ⟨k, rfl, ht, hk1, hk2, h0⟩
    · repeat' (with_reducible (first | refine ZA ?_ | refine ZB ?_ | refine ZQ ?_ | refine ZP ?_ | refine ZD ?_ | refine Zt ?_ | refine ZC ?_ | refine ZR ?_ | simp (maxSteps := 2000000) (disch := first | omega | (simp only [Zm, Zl]; omega) | fail) only [go_sem, g1, g3, g4, g5, hp, hl, hc, hx, hd1, hod, iD, patch]))
      refine key _ _ ?_ ?_ ?_ ⟨hlen, by simp, ?_, ?_, ?_, ?_, ⟨_, WU rfl, ?_⟩, by simp only [Zl, Zm]; omega, Zgu (Zp5 (Zp5 hmp))⟩ (by simp only [Zl, Zm]; omega)
      rotate_left 7
      · refine .inr ⟨hh.next + 1, rfl, ?_, by omega, by simp only [Zl, Zm]; omega, by simp⟩
        rw [Yn (by omega)]
        exact VA (by simp only [Zm])
      all_goals first | (rw [Yn (by omega), YG (by simp only [Zm]; omega), YG (by omega)]; assumption) | simp (maxSteps := 2000000) (disch := first | omega | (simp only [Zm, Zl]; omega) | fail) only [go_sem, g1, g3, g4, g5, iD]
    · have hap : ∀ H, Z5f (some (.tip out.length 3)) 3 1 8 k out.length 1 (out.map iD) [iD i] H = .ok (.sl k (out.length + 1) (out.map iD ++ [iD i])) (Wq H k (.tip (out.length + 1) 3)) := fun H => oTip_ok (by simp) (by omega) (by omega)
      simp only [iD] at hap
      repeat' (with_reducible (first | refine ZA ?_ | refine ZB ?_ | refine ZQ ?_ | refine ZP ?_ | refine ZD ?_ | refine Zt ?_ | refine ZC ?_ | refine ZR ?_ | simp (maxSteps := 2000000) (disch := first | omega | (simp only [Zm, Zl]; omega) | fail) only [go_sem, g1, g3, g4, g5, hp, hl, hc, hx, hd1, hod, iD, ht, hap, patch]))
      refine key _ _ ?_ ?_ ?_ ⟨hlen, by simp; omega, ?_, ?_, ?_, ?_, ⟨_, WU rfl, ?_⟩, by simp only [Zl, Zm]; omega, Zgu (Z53 (Zp5 hmp))⟩ (by simp only [Zl, Zm]; omega)
      rotate_left 7
      · refine .inr ⟨k, by simp [iD], ?_, hk1, by simp only [Zl, Zm]; omega, by simp⟩
        rw [Yn (by omega), WU rfl]
        simp
      all_goals first | (rw [Yn (by omega), Yn (by omega), YG (by omega)]; assumption) | simp (maxSteps := 2000000) (disch := first | omega | (simp only [Zm, Zl]; omega) | fail) only [go_sem, g1, g3, g4, g5, iD]
end Run
end
end Go.Abs
namespace Go.Abs
noncomputable section
namespace Run
variable {E : Env} {T : Nat → ZE}
theorem Zia {fn : Fn} {l1 l2 : List (Tr D → D)} {p : D → Tr D → Tr D} {k : FR} {t : Tr D} {h : H} {Q : Uc} {R : Uk} : VR E T (fo (Zdj fn l1 l2) p k) t h Q R ↔ VR E T k (p (.func fn (Zkv l1 t) (Zkv l2 t)) t) h Q R := Xx fun _ => rfl
attribute [local go_sem] Zny Zib Zn1 Zh9 Zih Zh8 Zie Znx Zid Zic Znw Zbi Zij Zbg Zif Zeg Zbh Vh Zeh Znz Zil Zef Zig Zii Zik Zei Zbf Zej Zn5 Zoa Zim Zir Zip Zbk Zbj Vi Zio Zin Zn2 Zek Zit Ziq Zis Zel Zof Zoh Ziu Zog Zxo Zxp Zxm Zxn Zjc Zjb Zjd Zjj Zji Zjk Zpw Zpv Zfc Zfd Zfb Zot Ze9 Zi5 Zby Ze6 Ze7 Zbz Zb0 Zi8 Zi7 Zi6 Zbv Ux Zc1 Zi2 Zo8 oRd Z2a UA Uz oSt Zb1 Ze5 WS We UD Vp U5 Vn Vo Uw Uv Zcg Zcf Zt9 Zbe Zfk Zcb UE Vs Uy Zb2 Zkl Zhd Vm Ws Vq mem_cons Zpq Zo7 Uo Option.map_some Option.map_none Zfa UK UF UL Zch UG UJ UH Vt UI Ze2 Zbt Ze4 Zez Zi4 Ze0 Ze3 Ze1 Zbu Zbs ZX U6 Vc WW XH Zp3 Zp2 Z51 V5 Zaf Zfo Zc3 Vk Uq Vr WT Wp UN List.drop_succ_cons List.drop_zero List.drop_nil List.take_succ_cons List.take_zero List.take_nil List.length_cons List.length_nil List.cons_append List.nil_append Nat.reduceAdd Nat.reduceEqDiff Nat.reduceLeDiff decide_true decide_false Bool.and_self Bool.and_true Bool.true_and Bool.not_true Bool.not_false cond_true cond_false true_and and_true Zg4 Zpg Zpz reduceIte Nat.add_zero Nat.zero_add Nat.reduceMul Nat.reduceSub Nat.reduceBEq List.map_cons List.map_nil Zm Zl WV YG Xu Yn Zia
def Z49 : FC := (Z1 <| fo (Ye 53 (Gt 0)) (St 1) <| fo (Yf (kD (.v (.slice none 0 0)))) (St 2) <| Z2)
def Z48 : FC := (Z1 <| fo (ZJ (Gt 1)) (St 8) <| fo (u1 Wt (Gt 8)) (St 9) <| fo (u1 (Zcq 1) (Gt 9)) (St 10) <| fo (ZJ (Gt 10)) (St 11) <| fo (u1 V6 (Gt 11)) (St 12) <| fo (u2 (Zbq 4 1 1 [(.v (.bool false))]) (Gt 12) (Gt 12)) (St 13) <| fo (Za 163 [(.v (.slice none 0 0))]) (St 3) <| fo (Ze 1 (Gt 3) (Gt 13)) p0 <| Z2)
def Z47 : FC := (Z1 <| fo (ZJ (Gt 3)) (St 14) <| fo (ZJ (Gt 3)) (St 15) <| fo (u1 V6 (Gt 15)) (St 16) <| fo (Zd XY .sub 3 (.tmp 16) (.const (.int .i64 (.ofNat 1))) (Gt 16) (kD (.int .i64 (.ofNat 1)))) (St 17) <| fo (u2 (Vw 1) (Gt 14) (Gt 17)) (St 18) <| fo (Ze 1 (Gt 18) (kD (.v (.bool true)))) p0 <| Z2)
def Z46 : FC := (Z1 <| fo (Za 37 [(.v (.slice none 0 0))]) (St 4) <| Z2)
def Z45 : FC := (Z1 <| fo (ZJ (Gt 3)) (St 19) <| fo (Z9 78 [(Gt 19)]) (St 20) <| Z2)
def k105 : ZE := Y5 [St 0, St 1, St 2, St 3, St 4, St 5, St 6, St 7, St 8, St 9, St 10, St 11] (fun t h => .ok (Gt 2 t) h) (Z0 (Z1 <| fo (Ye 163 (Gt 0)) (St 1) <| fo (Yf (kD (.v .nilFunc))) (St 2) <| Z2) (Z0 (Z1 <| fo (Zdj (.func 107) [] [(Gt 1)]) (St 3) <| fo (Yf (Gt 3)) (St 2) <| Z2) Zb))
theorem Zxw {m n : Nat} (h1 : n ≤ m) (h2 : m ≤ 9223372036854775807) : XY .i64 (.ofNat m) (.ofNat n) = .int .i64 (.ofNat (m - n)) := by
  have e : Z50 (.ofNat m) (.ofNat n) = .ofNat (m - n) := by rw [Ztj]; simp only [Int.ofNat_eq_natCast]; omega
  rw [XY, e, Zsu (by omega)]
def Zxg (n : Nat) : List Bool := (List.replicate n false).set (n - 1) true
theorem Z5j {n : Nat} {h : H} (hn : n ≤ 1000000) : oMk (E := E) 4 1 1 [.v (.bool false)] (.int .i64 (.ofNat n)) (.int .i64 (.ofNat n)) h = .ok (.row h.next 0 n n) (WJ h (.cells 4 ((List.replicate n false).map bD))) := by
  rw [oMk_row (by omega) (by omega)]
  congr 2
  have : ∀ m, repeatL [D.v (.bool false)] m = (List.replicate m false).map bD := by
    intro m
    induction m with
    | zero => rfl
    | succ m ih => rw [repeatL, ih, List.replicate_succ]; rfl
  rw [this]
def hU (F : D) (n : Nat) : H :=
  WJ (WJ (Wq (Wq (WJ (WJ (WJ Za9 (.cells 53 [F])) (.cells 4 ((List.replicate n false).map bD))) (.cells 163 [.v (.slice none 0 0)])) 3 (.cells 163 [.row 2 0 n n])) 2 (.cells 4 ((Zxg n).map bD))) (.cells 37 [.v (.slice none 0 0)])) (.cells 163 [.row 2 0 n n])
structure TU (F : D) (n : Nat) (t : Tr D) : Prop where
  g1 : Gt 1 t = .ptr 1 0
  g3 : Gt 3 t = .ptr 3 0
  g4 : Gt 4 t = .ptr 4 0
  g20 : Gt 20 t = .func (.func 107) [] [.ptr 5 0]
theorem Zr9 : Za9.next = 1 := rfl
theorem Zd7 {cs : List D} : (D.ep cs).cells = [.ep cs] := rfl
set_option maxHeartbeats 4000000 in
theorem pre_ok (h105 : T 78 = k105) (F c0 : D) (ss rest : List D) (n : Nat) (hF : F = .ep (c0 :: .sl 0 n ss :: rest)) (hn0 : 0 < n) (hn : n ≤ 100000) (t : Tr D) (g0 : Gt 0 t = F) :
    VP E T Z49 t Za9 (fun e t0 h0 => e = .normal ∧ VP E T Z48 t0 h0 (fun e t1 h1 => e = .normal ∧ VP E T Z47 t1 h1 (fun e t2 h2 => e = .normal ∧ VP E T Z46 t2 h2 (fun e t3 h3 => e = .normal ∧ VP E T Z45 t3 h3 (fun e t4 h4 => e = .normal ∧ h4 = hU F n ∧ TU F n t4) Zc2) Zc2) Zc2) Zc2) Zc2 := by
  have hT0 : Za9.next = 1 := rfl
  have hmk := fun h => Z5j (E := E) (n := n) (h := h) (by omega)
  have hsub : XY .i64 (.ofNat n) (.ofNat 1) = .int .i64 (.ofNat (n - 1)) := Zxw (by omega) (by omega)
  have hix : ∀ h, Zgl 1 (.row 2 0 n n) (.int .i64 (.ofNat (n - 1))) h = .ok (.ptr 2 (0 + (n - 1) * 1)) h := fun h => Zpl (by omega)
  have hpat : patch ((List.replicate n false).map bD) ((n - 1) * 1) [.v (.bool true)] = some ((Zxg n).map bD) := by
    refine Zvy (by simp; omega) ?_
    rw [Nat.mul_one]
    have := Z39 (gs := (List.replicate n false).map bD) (d := bD true) (i := n - 1) (by simp; omega)
    unfold Zxg
    rw [List.map_set]; exact this
  unfold Z49
  repeat' (with_reducible (first | refine ZA ?_ | refine ZB ?_ | refine ZQ ?_ | refine ZP ?_ | refine ZD ?_ | refine Zt ?_ | refine ZC ?_ | refine ZR ?_ | simp (maxSteps := 2000000) (disch := first | omega | (simp only [Zm, Zl]; omega) | fail) only [go_sem, g0, hF, Zr9, Zd7]))
  try refine ⟨rfl, ?_⟩
  unfold Z48
  repeat' (with_reducible (first | refine ZA ?_ | refine ZB ?_ | refine ZQ ?_ | refine ZP ?_ | refine ZD ?_ | refine Zt ?_ | refine ZC ?_ | refine ZR ?_ | simp (maxSteps := 2000000) (disch := first | omega | (simp only [Zm, Zl]; omega) | fail) only [go_sem, hmk, Zr9, patch, Zd7]))
  try refine ⟨rfl, ?_⟩
  unfold Z47
  repeat' (with_reducible (first | refine ZA ?_ | refine ZB ?_ | refine ZQ ?_ | refine ZP ?_ | refine ZD ?_ | refine Zt ?_ | refine ZC ?_ | refine ZR ?_ | simp (maxSteps := 2000000) (disch := first | omega | (simp only [Zm, Zl]; omega) | fail) only [go_sem, hsub, hix, hpat, Zr9, Zd7]))
  try refine ⟨rfl, ?_⟩
  unfold Z46
  repeat' (with_reducible (first | refine ZA ?_ | refine ZB ?_ | refine ZQ ?_ | refine ZP ?_ | refine ZD ?_ | refine Zt ?_ | refine ZC ?_ | refine ZR ?_ | simp (maxSteps := 2000000) (disch := first | omega | (simp only [Zm, Zl]; omega) | fail) only [go_sem, Zr9, Zd7]))
  try refine ⟨rfl, ?_⟩
  unfold Z45
  repeat' (with_reducible (first | refine ZA ?_ | refine ZB ?_ | refine ZQ ?_ | refine ZP ?_ | refine ZD ?_ | refine Zt ?_ | refine ZC ?_ | refine ZR ?_ | simp (maxSteps := 2000000) (disch := first | omega | (simp only [Zm, Zl]; omega) | fail) only [go_sem, Zr9, Zd7]))
  refine ZO ?_
  refine YK h105 ?_
  repeat' (with_reducible (first | refine ZA ?_ | refine ZB ?_ | refine ZQ ?_ | refine ZP ?_ | refine ZD ?_ | refine Zt ?_ | refine ZC ?_ | refine ZR ?_ | simp (maxSteps := 2000000) (disch := first | omega | (simp only [Zm, Zl]; omega) | fail) only [go_sem, Zr9, Zd7]))
  refine ⟨rfl, ⟨?_, ?_, ?_, ?_⟩⟩ <;> simp (maxSteps := 2000000) (disch := first | omega | (simp only [Zm, Zl]; omega) | fail) only [go_sem]
end Run
end
end Go.Abs
