/- The range over slices.Backward of a []bool: what the function that it hands out does. -/
import Derived.RangeFuncNested
import Derived.RangeFuncBound
import Derived.RangeFuncCalls
import Derived.RangeFuncLeaves
import Derived.Shelf.Abstract
import Derived.Shelf.RegionOpen
import Derived.WalkKit
import Derived.OwnWalkIn
import Derived.TacticsInMore
import Derived.LoopNIn
import Derived.LoopIn
import Derived.Test.YthifolidfjpdkaaGreatDoorProg
import Derived.Test.YthifolidfjpdkaaGreatDoorNdCall
import Derived.Shelf.RegionOpenPlain
import Derived.Deep.LoopGhost
import Derived.Lib.Walk
import Derived.Sort.WalkB12
import Derived.Lib.SlicesMore
import Derived.Lib.ConvBytes
import Derived.Lib.OwnBridge
import Derived.Test.YthifolidfjpdkaaGreatDoorNdWay
import Derived.Test.YthifolidfjpdkaaGreatDoorNdFast
set_option linter.unusedVariables false
set_option linter.unusedSimpArgs false
namespace Go.Proofs.Bk
open Go.RowKit Go.Shelf Go.Abs
attribute [local go_sem] Oper.semAt_some
def Z6b (len : Nat) : Nat → List Nat
  | 0 => []
  | k + 1 => Z6b len k ++ [len - 1 - k]
theorem Ztn (len : Nat) : ∀ k,k ≤ len → Z6b (len + 1) (k + 1) = len :: Z6b len k
  | 0,_ => by simp [Z6b]
  | k + 1,h => by
    rw [Z6b,Ztn len k (by omega),Z6b]
    simp
    omega
theorem Znm : ∀ len,Z6b len len = Zjx len
  | 0 => rfl
  | n + 1 => by rw [Ztn n n (Nat.le_refl _),Znm n]; rfl
set_option maxRecDepth 100000 in
set_option maxHeartbeats 2000000 in
theorem Z9b (F : Fence) (n : Nat) (h7 : F.fn 91) (hro : F.round = none) (hn : 1 ≤ n) (l rb rl off len cap : Nat) (hreach : len ≤ 1000000) (J Jx : List (Elt len) → World → Prop)
    (hY : ∀ pre x W,J pre W → pre.length < len → YieldAt F (n - 1) Tryz.prog l #[.int .i64 (x.1.1 : Int),.bool x.1.2] W fun e W' =>
      (e = .returned (.bool true) ∧ J (pre ++ [x]) W' ∧ (Hd rb rl off len cap W → Hd rb rl off len cap W')) ∨ (e = .returned (.bool false) ∧ Jx (pre ++ [x]) W'))
    (W : World) (hH : Hd rb rl off len cap W) (h0 : J [] W) :
    CallsIn F n Tryz.prog 91 #[.func (.yield l) #[] #[],.pointer (some ⟨rb,0,none⟩)] W fun e W' => (∃ v,e = .returned v) ∧
      ((∃ ys,ys.map (·.1.1) = Z6b len len ∧ J ys W') ∨ (∃ pre,True ∧ Jx pre W')) := by
  refine callsIn_of_wp Tryz.func91 rfl h7 ?_ hro
  simp only [Tryz.ntmps91,List.size_toArray,List.length_cons,List.length_nil,Nat.reduceAdd,Nat.reduceSub,Array.replicate_succ,Array.replicate_zero,List.push_toArray,List.append_toArray,List.nil_append,List.cons_append]
  have hBs := hH.hdr
  gi_wp2
  gi_loopw [3] (fun i wr => ∃ k : Nat,∃ ys : List (Elt len),k ≤ len ∧ i = .int .i64 ((len : Int) - 1 - k) ∧ ys.map (·.1.1) = Z6b len k ∧ ys.length = k ∧ J ys wr ∧ Hd rb rl off len cap wr)
    (fun i _ => (intOf i + 1).toNat)
  case atStart => exact ⟨0,[],Nat.zero_le _,by simp,rfl,rfl,h0,hH⟩
  case round =>
    obtain ⟨k,ys,hk,rfl,hys,hyl,hJs,hHr⟩ := hrel
    have hBs' := hHr.hdr
    by_cases hlt : k < len
    · obtain ⟨j,hj⟩ : ∃ j : Nat,len - 1 - k = j := ⟨_,rfl⟩
      have hji : (len : Int) - 1 - k = (j : Int) := by omega
      have hjl : j < len := by omega
      obtain ⟨v,hc1⟩ := hHr.cells j hjl
      obtain ⟨fn,tmps,assign,body,hy,hR⟩ := hY _ ⟨(j,v),hjl⟩ wr hJs (by omega)
      dsimp only at hy
      rw [hji]
      gi_wp2
      refine hR.mono ?_
      rintro e W3 (⟨rfl,hJ3,hk3⟩ | ⟨rfl,hJx3⟩)
      · have hH3 := hk3 hHr
        gi_wp2
        go_roundw
        case rel => exact ⟨k + 1,ys ++ [⟨(j,v),hjl⟩],by omega,by simp; omega,by rw [List.map_append,hys,Z6b,hj]; rfl,by simp; omega,hJ3,hH3⟩
        case measure => simp [intOf] <;> omega
      · gi_wp2
        refine bodyPost_ret (results_none rfl _ _ _) rfl ?_
        exact ⟨⟨_,rfl⟩,.inr ⟨_,trivial,hJx3⟩⟩
    · obtain rfl : k = len := by omega
      have : (k : Int) - 1 - k = -1 := by omega
      rw [this]
      gi_wp2
      go_end0
      exact ⟨⟨_,rfl⟩,.inl ⟨ys,hys,hJs⟩⟩
theorem back_seq : Zzx Tryz.prog 91 := by
  intro rb rl off len cap w hlen hw l J Jx W hb hJa hJxa hY h0
  have hH : Hd rb rl off len cap W := ⟨(hb.cell (World.block_lt_of_cell? w _ hw.hdr)).trans hw.hdr,fun j hj => by
    obtain ⟨v,hv⟩ := hw.cells j hj
    exact ⟨v,(hb.cell (World.block_lt_of_cell? w _ hv)).trans hv⟩⟩
  refine (Z9b Fence.wide 2 trivial rfl (by decide) l rb rl off len cap hlen J Jx hY W hH h0).mono ?_
  rintro e W' ⟨he,⟨ys,h1,h2⟩ | ⟨pre,_,h2⟩⟩
  · exact ⟨he,.inl ⟨ys,h1.trans (Znm len),h2⟩⟩
  · exact ⟨he,.inr ⟨pre,trivial,h2⟩⟩
end Go.Proofs.Bk
namespace Go.Proofs.RevW
open Go.Shelf Go.RowKit Go.Lib Go.Sort
abbrev encI (b : Int) : Value := .int .i64 b
set_option maxHeartbeats 1600000 in
set_option maxRecDepth 1000000 in
theorem rev_ints (blk off cap : Nat) (d : Array Int) (w : World) (hH : Holds encI w blk off d) (hsz : d.size ≤ 9223372036854775807) :
    Calls Tryz.prog 60 #[.slice (some ⟨blk,off,none⟩) d.size cap] w fun e w' => e = .returned (.tuple #[]) ∧ ∃ n,w' = putRow encI (Sort.ahead w n) blk off d.reverse := by
  have mixed : Tryz.prog.follows .mixedOrders = true := by kernel_rfl
  go_enter Tryz.func60,Tryz.ntmps60
  go_wp2
  go_loopg [2,3] d.size (fun k s2 s3 wr => ∃ (i jn : Nat) (jz : Int) (dk : Array Int) (n : Nat),s2 = .int .i64 i ∧ s3 = .int .i64 jz ∧ ((i : Int) < jz → jz = jn ∧ jn < d.size) ∧ (¬ (i : Int) < jz → ¬ i < jn) ∧ jn - i ≤ k ∧
    dk.size = d.size ∧ wr = putRow encI (Sort.ahead w n) blk off dk ∧ reverseLoop i jn dk = reverseLoop 0 (d.size - 1) d)
  case atStart => exact ⟨0,d.size - 1,(d.size : Int) - 1,d,0,rfl,rfl,fun h => ⟨by omega,by omega⟩,fun h => by omega,by omega,rfl,(putRow_self encI w blk off d hH).symm,rfl⟩
  case round =>
    obtain ⟨i,jn,jz,dk,n,rfl,rfl,h1,h2,hk,hds,hwr,heq⟩ := hrel
    by_cases hlt : (i : Int) < jz
    · obtain ⟨rfl,hjn⟩ := h1 hlt
      have hij : i < jn := by omega
      have hHk : Holds encI wr blk off dk := by rw [hwr]; exact holds_putRow encI _ blk off d dk (holds_ahead encI w n blk off d hH) hds
      obtain ⟨ci,fi⟩ := hHk i (by omega)
      obtain ⟨cj,fj⟩ := hHk jn (by omega)
      have A : Aside (wr = putRow encI (Sort.ahead w n) blk off dk) := hwr
      clear hwr hHk hH h1 h2
      go_wp2_with fail
      go_region_o
      go_wp2
      go_roundg (jn - 1 - (i + 1))
      case measure => omega
      case rel =>
        rw [reverseLoop,if_pos hij] at heq
        exact ⟨i + 1,jn - 1,(jn : Int) - 1,swp dk i jn,n + 1,by simp,rfl,fun h => ⟨by omega,by omega⟩,fun h => by omega,Nat.le_refl _,by rw [size_swp]; exact hds,
          swap_world encI (by omega) (by omega) A.out (by first | rfl | simp [encI,getElem!_pos,show jn < dk.size by omega]) (by first | rfl | simp [encI,getElem!_pos,show i < dk.size by omega]),heq⟩
    · have hnot := h2 hlt
      go_wp2
      go_end0
      refine ⟨rfl,n, ?_⟩
      rw [reverseLoop,if_neg hnot] at heq
      rw [← Lib.reverseLoop_reverse,← heq]
end Go.Proofs.RevW
namespace Go.Abs
noncomputable section
namespace Run
variable {E : Env} {T : Nat → ZV}
attribute [local go_sem] Zc2 Ud Zc3 Ub Uj Ua Ug Zc1 Uf Ue Zc0 XJ Ul XG Uh WM XH Ym WN UY Un WL Ui Uk Um WO YN WQ Zc5 Zc6 Uo Ut Ur XL XK Yn Uq Up Zc4 WR Uv Us Uu WS Zc7 Zc9 Uw Zc8 Zir Zis Zip Ziq UG UF UH UJ UI UK Zdh Zdg V7 V8 V6 Zda V4 UA XU V1 V3 XV XW UD UC UB XR YX Wg Uy Zdd oRd Zps X0 YZ oSt XX V0 Y0 ZH X2 Ys WI Yq Yr YW YV Wc Wb Ztm XD V9 Wa X3 Yv YY XY Xt X1 Yp ZN Yt mem_cons Zdf Zdc YT Option.map_some Option.map_none V5 X9 X4 Xa Wd X5 X8 X6 Yw X7 WX XP WZ WU Uz WV WY WW XQ XO YG Wo WH Zcp Zcy Zbp Zdj Zq7 Xi Xz Va WB Yo YU Yu Y1 ZU YH List.drop_succ_cons List.drop_zero List.drop_nil List.take_succ_cons List.take_zero List.take_nil List.length_cons List.length_nil List.cons_append List.nil_append Nat.reduceAdd Nat.reduceEqDiff Nat.reduceLeDiff decide_true decide_false Bool.and_self Bool.and_true Bool.true_and Bool.not_true Bool.not_false cond_true cond_false true_and and_true Zah Zde Zdi reduceIte Nat.add_zero Nat.zero_add Nat.reduceMul Nat.reduceSub Nat.reduceBEq List.map_cons List.map_nil Z8 Z7 Y2 Zi Zb Z9
def qbB : FC := (Z0 (Z1 <| fo (Zl (Gt 1)) (St 32) <| fo (Zh (Gt 5)) (St 33) <| fo (Zw 59 [(Gt 32),(Gt 33)]) (St 34) <| fo (u1 Yy (Gt 34)) (St 35) <| fo (Zh (kD (.int .i64 (.ofNat 0)))) (St 36) <| Z2)
 (ZA 2 (Xy (Z0 (Z1 <| fo (Za WH .lss 3 (.tmp 36) (.tmp 35) (Gt 36) (Gt 35)) (St 37) <| Z2)
 (Z0 (Zg (Gt 37) Zx (Vi 2))
 (Z0 (ZA 3 (Z0 (Z1 <| fo (u2 (ZZ 1) (Gt 34) (Gt 36)) (St 38) <| fo (Zl (Gt 38)) (St 39) <| fo (Zh (Gt 39)) (St 7) <| Z2)
 (Z1 <| fo (Zl (Gt 3)) (St 40) <| fo (Zh (Gt 7)) (St 41) <| fo (u2 (ZZ 1) (Gt 40) (Gt 41)) (St 42) <| fo (ZF 1 (Gt 42) (kD (.v (.bool true)))) p0 <| Z2)))
 (Z1 <| fo (Za YS .add 3 (.tmp 36) (.const (.int .i64 (.ofNat 1))) (Gt 36) (kD (.int .i64 (.ofNat 1)))) (St 43) <| fo (Zh (Gt 43)) (St 36) <| Z2)))))))
def Z7p : FC := (ZA 1 (Z0 (Z0 (Z1 <| fo (Zl (Gt 3)) (St 23) <| fo (Zh (Gt 5)) (St 24) <| fo (u2 (ZZ 1) (Gt 23) (Gt 24)) (St 25) <| fo (Zl (Gt 25)) (St 26) <| fo (u1 (Ze7 .not) (Gt 26)) (St 27) <| Z2)
 (Zg (Gt 27) (Vi 1) Zx))
 (Z0 (Z1 <| fo (Zl (Gt 4)) (St 28) <| fo (Zh (Gt 5)) (St 29) <| fo (Xu 3 1 [(.int .i64 (.ofNat 0))] [(0,1,(Gt 29))]) (St 30) <| fo (u2 (Zbo 3 1 8) (Gt 28) (Gt 30)) (St 31) <| fo (ZF 1 (Gt 4) (Gt 31)) p0 <| Z2)
 qbB)))
def bD (b : Bool) : D := .v (.bool b)
def Zfr (n : Nat) : D := .int .i64 (.ofNat n)
def Zbu : List Nat → List Bool → List Bool
  | [],bs => bs
  | k :: r,bs => Zbu r (bs.set k true)
theorem Zns : ∀ (l : List Nat) (bs : List Bool),(Zbu l bs).length = bs.length
  | [],_ => rfl
  | k :: r,bs => by rw [Zbu,Zns r]; simp
def Zce (nm : Nat → List Nat) (s : List Bool × List Nat) (i : Nat) : List Bool × List Nat :=
  bif s.1.getD i false then (Zbu (nm i) s.1,s.2 ++ [i]) else s
structure Nms where
  p : Nat
  l : Nat
  c : Nat
  o : Nat
  b : Nat
  base : Nat
structure Nms.Ok (N : Nms) : Prop where
  ne : N.p ≠ N.l ∧ N.p ≠ N.c ∧ N.p ≠ N.o ∧ N.p ≠ N.b ∧ N.l ≠ N.c ∧ N.l ≠ N.o ∧ N.l ≠ N.b ∧ N.c ≠ N.o ∧ N.c ≠ N.b ∧ N.o ≠ N.b
  lt : N.p < N.base ∧ N.l < N.base ∧ N.c < N.base ∧ N.o < N.base ∧ N.b < N.base
def OutD (N : Nms) (hh : H) (out : List Nat) (d : D) : Prop := (out = [] ∧ d = .v (.slice none 0 0)) ∨ ∃ k,d = .sl k out.length (out.map Zfr) ∧ hget hh.mem k = some (.tip out.length 3) ∧ N.base ≤ k ∧ k < hh.next ∧ 0 < out.length
structure StU (N : Nms) (F : D) (n : Nat) (bs : List Bool) (out : List Nat) (hh : H) : Prop where
  len : bs.length = n
  outl : out.length ≤ 100000
  p : hget hh.mem N.p = some (.cells 23 [F])
  l : hget hh.mem N.l = some (.cells 4 (bs.map bD))
  c : hget hh.mem N.c = some (.cells 146 [.row N.l 0 n n])
  b : hget hh.mem N.b = some (.cells 146 [.row N.l 0 n n])
  o : ∃ d,hget hh.mem N.o = some (.cells 58 [d]) ∧ OutD N hh out d
  nx : N.base ≤ hh.next
  maps : ∀ j es,hget hh.mem j ≠ some (.map es)
theorem Z8z {bs : List Bool} {i : Nat} (h : i < bs.length) : (bs.map bD).drop (i * 1) = bD bs[i] :: (bs.map bD).drop (i + 1) := by
  rw [Nat.mul_one,List.drop_eq_getElem_cons (by simpa using h)]; simp
theorem Z8y {l : List Nat} {i : Nat} (h : i < l.length) : (l.map Zfr).drop (i * 1) = Zfr l[i] :: (l.map Zfr).drop (i + 1) := by
  rw [Nat.mul_one,List.drop_eq_getElem_cons (by simpa using h)]; simp
theorem Zhv {h : H} {l : Nat} {ty : TypeId} {cs : List D} (hm : ∀ j es,hget h.mem j ≠ some (.map es)) : ∀ j es,hget (YF h l (.cells ty cs)).mem j ≠ some (.map es) := by
  intro j es
  by_cases e : j = l
  · rw [VU e]; intro h; cases h
  · rw [Z9 e]; exact hm j es
theorem Z4z {h : H} {l n : Nat} {e : TypeId} (hm : ∀ j es,hget h.mem j ≠ some (.map es)) : ∀ j es,hget (YF h l (.tip n e)).mem j ≠ some (.map es) := by
  intro j es
  by_cases e : j = l
  · rw [VU e]; intro h; cases h
  · rw [Z9 e]; exact hm j es
theorem Zo6 {h : H} {n : Nat} {e : TypeId} (hm : ∀ j es,hget h.mem j ≠ some (.map es)) : ∀ j es,hget (Vr h (.tip n e)).mem j ≠ some (.map es) := by
  intro j es
  by_cases e : j = h.next
  · rw [YE e]; intro h; cases h
  · rw [Zi e]; exact hm j es
def LI (N : Nms) (F : D) (n : Nat) (out : List Nat) (d34 : D) (l : List Nat) (Zwf : List Bool) (nx : Nat) (_ : Tr D) (_ : H) (m : Nat) (t : Tr D) (h : H) : Prop :=
  ∃ i,i ≤ l.length ∧ m = l.length - i ∧ Gt 34 t = d34 ∧ Gt 35 t = .int .i64 (.ofNat l.length) ∧ Gt 36 t = .int .i64 (.ofNat i) ∧ Gt 3 t = .ptr N.c 0 ∧ h.next = nx ∧ StU N F n (Zbu (l.take i) Zwf) out h
theorem Zpv {l : List Nat} {j : Nat} (h : j < l.length) : l.take (j + 1) = l.take j ++ [l[j]] := by
  rw [List.take_add_one,List.getElem?_eq_getElem h]; rfl
theorem Zt1 (l : List Nat) (k : Nat) : ∀ bs,Zbu (l ++ [k]) bs = (Zbu l bs).set k true := by
  induction l with
  | nil => intro bs; rfl
  | cons a r ih => intro bs; exact ih _
set_option maxHeartbeats 4000000 in
theorem Z3f (N : Nms) (hN : N.Ok) (F : D) (n : Nat) (nm : Nat → List Nat) (hnm : ∀ i,i < n → ∀ k ∈ nm i,k < n) (hnl : ∀ i,i < n → (nm i).length ≤ 1000000)
    (hcall : ∀ i,i < n → ∀ h,VC E T 59 [F,Zfr i] h (fun d h' => h' = h ∧ ((nm i = [] ∧ d = .v (.slice none 0 0)) ∨ ∃ id,d = .sl id (nm i).length ((nm i).map Zfr))) Zd8)
    (bs : List Bool) (out : List Nat) (hh : H) (hS : StU N F n bs out hh) (i : Nat) (hi : i < n) (ho : out.length + 1 ≤ 100000) (t : Tr D) (g1 : Gt 1 t = .ptr N.p 0) (g3 : Gt 3 t = .ptr N.c 0) (g4 : Gt 4 t = .ptr N.o 0) (g5 : Gt 5 t = Zfr i) :
    VP E T Z7p t hh (fun e t' h' => e = .normal ∧ StU N F n (Zce nm (bs,out) i).1 (Zce nm (bs,out) i).2 h' ∧ h'.next ≤ hh.next + 2) Zd8 := by
  obtain ⟨⟨n1,n2,n3,n4,n5,n6,n7,n8,n9,n10⟩,q1,q2,q3,q4,q5⟩ := hN
  obtain ⟨hlen,hol,hp,hl,hc,hb,⟨d,hod,hO⟩,hnx,hmp⟩ := hS
  have hib : i < bs.length := by omega
  have hx : Zci 1 (.row N.l 0 n n) (Zfr i) hh = .ok (.ptr N.l (0 + i * 1)) hh := Zch hi
  have hd1 := Z8z hib
  have hgd : bs.getD i false = bs[i] := by simp [List.getD_eq_getElem?_getD,List.getElem?_eq_getElem hib]
  have hr1 : oRd (some (.cells 4 (bs.map bD))) (i * 1) 1 = some [bD bs[i]] := oRd_at (by rw [hd1]; rfl) rfl
  unfold Z7p
  repeat' (with_reducible (first | refine Yc ?_ | refine Yd ?_ | refine Xo ?_ | refine Xn ?_ | refine Yf ?_ | refine ZQ ?_ | refine Ye ?_ | refine Xp ?_ | simp (maxSteps := 2000000) (disch := first | omega | (simp only [Z8,Z7]; omega) | fail) only [go_sem,g1,g3,g4,g5,hp,hl,hc,hx,hd1]))
  simp only [bD]
  cases hbi : bs[i] with
  | false =>
    repeat' (with_reducible (first | refine Yc ?_ | refine Yd ?_ | refine Xo ?_ | refine Xn ?_ | refine Yf ?_ | refine ZQ ?_ | refine Ye ?_ | refine Xp ?_ | simp (maxSteps := 2000000) (disch := first | omega | (simp only [Z8,Z7]; omega) | fail) only [go_sem,g1,g3,g4,g5,hp,hl,hc,hx,hd1]))
    have e : Zce nm (bs,out) i = (bs,out) := by simp only [Zce,hgd,hbi,cond_false]
    rw [e]
    first
      | exact ⟨rfl,⟨hlen,hol,hp,hl,hc,hb,⟨d,hod,hO⟩,hnx,hmp⟩,by omega⟩
      | exact ⟨⟨hlen,hol,hp,hl,hc,hb,⟨d,hod,hO⟩,hnx,hmp⟩,by omega⟩
  | true =>
    have e : Zce nm (bs,out) i = (Zbu (nm i) bs,out ++ [i]) := by simp only [Zce,hgd,hbi,cond_true]
    rw [e]
    have key : ∀ (t : Tr D) (h : H),Gt 1 t = .ptr N.p 0 → Gt 3 t = .ptr N.c 0 → Gt 5 t = Zfr i → StU N F n bs (out ++ [i]) h → h.next ≤ hh.next + 2 →
        VP E T qbB t h (fun e t' h' => Z1x 1 (fun e t' h' => e = .normal ∧ StU N F n (Zbu (nm i) bs) (out ++ [i]) h' ∧ h'.next ≤ hh.next + 2) e t' h') Zd8 := by
      intro t h g1 g3 g5 hS hnx2
      obtain ⟨hlen,hol,hp,hl,hc,hb,⟨d,hod,hO⟩,hnx,hmp⟩ := hS
      have hS : StU N F n bs (out ++ [i]) h := ⟨hlen,hol,hp,hl,hc,hb,⟨d,hod,hO⟩,hnx,hmp⟩
      unfold qbB
      repeat' (with_reducible (first | refine Yc ?_ | refine Yd ?_ | refine Xo ?_ | refine Xn ?_ | refine Yf ?_ | refine ZQ ?_ | refine Ye ?_ | refine Xp ?_ | simp (maxSteps := 2000000) (disch := first | omega | (simp only [Z8,Z7]; omega) | fail) only [go_sem,g1,g3,g5,hp,hl,hc]))
      refine Vl ?_
      simp only [go_sem]
      refine (hcall i hi h).mono ?_ (fun _ _ h => h.elim)
      rintro d34 h' ⟨rfl,hd34⟩
      have hlen34 : Zhp d34 h' = .ok (.int .i64 (.ofNat (nm i).length)) h' := by
        rcases hd34 with ⟨e,rfl⟩ | ⟨id,rfl⟩
        · rw [e]; rfl
        · rfl
      repeat' (with_reducible (first | refine Yc ?_ | refine Yd ?_ | refine Xo ?_ | refine Xn ?_ | refine Yf ?_ | refine ZQ ?_ | refine Ye ?_ | refine Xp ?_ | simp (maxSteps := 2000000) (disch := first | omega | (simp only [Z8,Z7]; omega) | fail) only [go_sem,g1,g3,g5,hp,hl,hc,hlen34]))
      refine Z14 (LI N F n (out ++ [i]) d34 (nm i) bs h'.next) (nm i).length ?_ ?_
      · refine ⟨0,Nat.zero_le _,rfl, ?_, ?_, ?_, ?_,rfl,hS⟩
        all_goals simp (maxSteps := 2000000) (disch := first | omega | (simp only [Z8,Z7]; omega) | fail) only [go_sem,g3]
      rintro m t2 h2 ⟨j,hj,rfl,k34,k35,k36,k3,hn2,hS2⟩
      have hS2' := hS2
      obtain ⟨hlen2,hol2,Zpu,hl2,hc2,hb2,⟨d2,hod2,hO2⟩,hnx2',hmp2⟩ := hS2
      have hnli := hnl i hi
      by_cases hjl : j < (nm i).length
      · have hd : decide (j < (nm i).length) = true := decide_eq_true hjl
        have hkn := hnm i hi (nm i)[j] (List.getElem_mem hjl)
        obtain ⟨id,rfl⟩ : ∃ id,d34 = .sl id (nm i).length ((nm i).map Zfr) := by
          rcases hd34 with ⟨e,_⟩ | h
          · rw [e] at hjl; exact absurd hjl (Nat.not_lt_zero _)
          · exact h
        have hix : Zci 1 (.sl id (nm i).length ((nm i).map Zfr)) (.int .i64 (.ofNat j)) h2 = .ok (.ep (Zfr (nm i)[j] :: ((nm i).map Zfr).drop (j + 1))) h2 := UT hjl (Z8y hjl)
        have hix2 : Zci 1 (.row N.l 0 n n) (Zfr (nm i)[j]) h2 = .ok (.ptr N.l (0 + (nm i)[j] * 1)) h2 := Zch hkn
        have hpat : patch ((Zbu ((nm i).take j) bs).map bD) ((nm i)[j] * 1) [.v (.bool true)] = some ((Zbu ((nm i).take (j + 1)) bs).map bD) := by
          have hb3 : (nm i)[j] < (Zbu ((nm i).take j) bs).length := by rw [hlen2]; exact hkn
          refine Zun (by simp; omega) ?_
          rw [Zpv hjl,Zt1,Nat.mul_one]
          have := Z20 (gs := (Zbu ((nm i).take j) bs).map bD) (d := bD true) (by simpa using hb3)
          rw [List.map_set]; exact this
        repeat' (with_reducible (first | refine Yc ?_ | refine Yd ?_ | refine Xo ?_ | refine Xn ?_ | refine Yf ?_ | refine ZQ ?_ | refine Ye ?_ | refine Xp ?_ | simp (maxSteps := 2000000) (disch := first | omega | (simp only [Z8,Z7]; omega) | fail) only [go_sem,k34,k35,k36,k3,hd,hix,hix2,hpat,Zpu,hl2,hc2]))
        refine ⟨(nm i).length - (j + 1),by omega,j + 1,by omega,rfl, ?_, ?_, ?_, ?_, ?_, ?_⟩
        rotate_left 5
        · refine ⟨by rw [Zns]; exact hlen,hol2, ?_, ?_, ?_, ?_,⟨d2, ?_, ?_⟩,by rw [Z7]; exact hnx2',Zhv hmp2⟩
          rotate_left 5
          · rcases hO2 with h | ⟨k2,e1,e2,e3,e4,e5⟩
            · exact .inl h
            · refine .inr ⟨k2,e1, ?_,e3,by rw [Z7]; exact e4,e5⟩
              rw [Z9 (by omega)]; exact e2
          all_goals first | exact VU rfl | (rw [Z9 (by omega)]; assumption)
        all_goals first | exact hn2 | simp (maxSteps := 2000000) (disch := first | omega | (simp only [Z8,Z7]; omega) | fail) only [go_sem,k34,k35,k36,k3]
      · have e : j = (nm i).length := by omega
        subst e
        have hd : decide ((nm i).length < (nm i).length) = false := decide_eq_false (by omega)
        repeat' (with_reducible (first | refine Yc ?_ | refine Yd ?_ | refine Xo ?_ | refine Xn ?_ | refine Yf ?_ | refine ZQ ?_ | refine Ye ?_ | refine Xp ?_ | simp (maxSteps := 2000000) (disch := first | omega | (simp only [Z8,Z7]; omega) | fail) only [go_sem,k34,k35,k36,k3,hd]))
        rw [List.take_length] at hS2'
        first
          | exact ⟨rfl,hS2',by omega⟩
          | exact ⟨hS2',by omega⟩
    rcases hO with ⟨rfl,rfl⟩ | ⟨k,rfl,ht,hk1,hk2,h0⟩
    · repeat' (with_reducible (first | refine Yc ?_ | refine Yd ?_ | refine Xo ?_ | refine Xn ?_ | refine Yf ?_ | refine ZQ ?_ | refine Ye ?_ | refine Xp ?_ | simp (maxSteps := 2000000) (disch := first | omega | (simp only [Z8,Z7]; omega) | fail) only [go_sem,g1,g3,g4,g5,hp,hl,hc,hx,hd1,hod,Zfr,patch]))
      refine key _ _ ?_ ?_ ?_ ⟨hlen,by simp, ?_, ?_, ?_, ?_,⟨_,VU rfl, ?_⟩,by simp only [Z7,Z8]; omega,Zhv (Zo6 (Zo6 hmp))⟩ (by simp only [Z7,Z8]; omega)
      rotate_left 7
      · refine .inr ⟨hh.next + 1,rfl, ?_,by omega,by simp only [Z7,Z8]; omega,by simp⟩
        rw [Z9 (by omega)]
        exact YE (by simp only [Z8])
      all_goals first | (rw [Z9 (by omega),Zi (by simp only [Z8]; omega),Zi (by omega)]; assumption) | simp (maxSteps := 2000000) (disch := first | omega | (simp only [Z8,Z7]; omega) | fail) only [go_sem,g1,g3,g4,g5,Zfr]
    · have hap : ∀ H,Z0n (some (.tip out.length 3)) 3 1 8 k out.length 1 (out.map Zfr) [Zfr i] H = .ok (.sl k (out.length + 1) (out.map Zfr ++ [Zfr i])) (YF H k (.tip (out.length + 1) 3)) := fun H => Zif (by simp) (by omega) (by omega)
      simp only [Zfr] at hap
      repeat' (with_reducible (first | refine Yc ?_ | refine Yd ?_ | refine Xo ?_ | refine Xn ?_ | refine Yf ?_ | refine ZQ ?_ | refine Ye ?_ | refine Xp ?_ | simp (maxSteps := 2000000) (disch := first | omega | (simp only [Z8,Z7]; omega) | fail) only [go_sem,g1,g3,g4,g5,hp,hl,hc,hx,hd1,hod,Zfr,ht,hap,patch]))
      refine key _ _ ?_ ?_ ?_ ⟨hlen,by simp; omega, ?_, ?_, ?_, ?_,⟨_,VU rfl, ?_⟩,by simp only [Z7,Z8]; omega,Zhv (Z4z (Zo6 hmp))⟩ (by simp only [Z7,Z8]; omega)
      rotate_left 7
      · refine .inr ⟨k,by simp [Zfr], ?_,hk1,by simp only [Z7,Z8]; omega,by simp⟩
        rw [Z9 (by omega),VU rfl]
        simp
      all_goals first | (rw [Z9 (by omega),Z9 (by omega),Zi (by omega)]; assumption) | simp (maxSteps := 2000000) (disch := first | omega | (simp only [Z8,Z7]; omega) | fail) only [go_sem,g1,g3,g4,g5,Zfr]
end Run
end
end Go.Abs
namespace Go.Abs
noncomputable section
namespace Run
variable {E : Env} {T : Nat → ZV}
theorem Uc {fn : Fn} {l1 l2 : List (Tr D → D)} {p : D → Tr D → Tr D} {k : FR} {t : Tr D} {h : H} {Q : UU} {R : ZM} : VR E T (fo (Zxn fn l1 l2) p k) t h Q R ↔ VR E T k (p (.func fn (Zky l1 t) (Zky l2 t)) t) h Q R := Xc fun _ => rfl
attribute [local go_sem] Zc2 Ud Zc3 Ub Uj Ua Ug Zc1 Uf Ue Zc0 XJ Ul XG Uh WM XH Ym WN UY Un WL Ui Uk Um WO YN WQ Zc5 Zc6 Uo Ut Ur XL XK Yn Uq Up Zc4 WR Uv Us Uu WS Zc7 Zc9 Uw Zc8 Zir Zis Zip Ziq UG UF UH UJ UI UK Zdh Zdg V7 V8 V6 Zda V4 UA XU V1 V3 XV XW UD UC UB XR YX Wg Uy Zdd oRd Zps X0 YZ oSt XX V0 Y0 ZH X2 Ys WI Yq Yr YW YV Wc Wb Ztm XD V9 Wa X3 Yv YY XY Xt X1 Yp ZN Yt mem_cons Zdf Zdc YT Option.map_some Option.map_none V5 X9 X4 Xa Wd X5 X8 X6 Yw X7 WX XP WZ WU Uz WV WY WW XQ XO YG Wo WH Zcp Zcy Zbp Zdj Zq7 Xi Xz Va WB Yo YU Yu Y1 ZU YH List.drop_succ_cons List.drop_zero List.drop_nil List.take_succ_cons List.take_zero List.take_nil List.length_cons List.length_nil List.cons_append List.nil_append Nat.reduceAdd Nat.reduceEqDiff Nat.reduceLeDiff decide_true decide_false Bool.and_self Bool.and_true Bool.true_and Bool.not_true Bool.not_false cond_true cond_false true_and and_true Zah Zde Zdi reduceIte Nat.add_zero Nat.zero_add Nat.reduceMul Nat.reduceSub Nat.reduceBEq List.map_cons List.map_nil Z8 Z7 Y2 Zi Zb Z9 Uc
def Z3r : FC := (Z1 <| fo (Zai 23 (Gt 0)) (St 1) <| fo (Zh (kD (.v (.slice none 0 0)))) (St 2) <| Z2)
def Z3q : FC := (Z1 <| fo (Zl (Gt 1)) (St 8) <| fo (u1 Z4 (Gt 8)) (St 9) <| fo (u1 (Zt 1) (Gt 9)) (St 10) <| fo (Zl (Gt 10)) (St 11) <| fo (u1 Yy (Gt 11)) (St 12) <| fo (u2 (Zje 4 1 1 [(.v (.bool false))]) (Gt 12) (Gt 12)) (St 13) <| fo (Zo 146 [(.v (.slice none 0 0))]) (St 3) <| fo (ZF 1 (Gt 3) (Gt 13)) p0 <| Z2)
def Z3p : FC := (Z1 <| fo (Zl (Gt 3)) (St 14) <| fo (Zl (Gt 3)) (St 15) <| fo (u1 Yy (Gt 15)) (St 16) <| fo (Za Zff .sub 3 (.tmp 16) (.const (.int .i64 (.ofNat 1))) (Gt 16) (kD (.int .i64 (.ofNat 1)))) (St 17) <| fo (u2 (ZZ 1) (Gt 14) (Gt 17)) (St 18) <| fo (ZF 1 (Gt 18) (kD (.v (.bool true)))) p0 <| Z2)
def Z3o : FC := (Z1 <| fo (Zo 58 [(.v (.slice none 0 0))]) (St 4) <| Z2)
def Z3n : FC := (Z1 <| fo (Zl (Gt 3)) (St 19) <| fo (Zw 58 [(Gt 19)]) (St 20) <| Z2)
def k105 : ZV := Zbg [St 0,St 1,St 2,St 3,St 4,St 5,St 6,St 7,St 8,St 9,St 10,St 11] (fun t h => .ok (Gt 2 t) h) (Z0 (Z1 <| fo (Zai 146 (Gt 0)) (St 1) <| fo (Zh (kD (.v .nilFunc))) (St 2) <| Z2) (Z0 (Z1 <| fo (Zxn (.func 91) [] [(Gt 1)]) (St 3) <| fo (Zh (Gt 3)) (St 2) <| Z2) Zv))
theorem Zwo {m n : Nat} (h1 : n ≤ m) (h2 : m ≤ 9223372036854775807) : Zff .i64 (.ofNat m) (.ofNat n) = .int .i64 (.ofNat (m - n)) := by
  have e : Z4v (.ofNat m) (.ofNat n) = .ofNat (m - n) := by rw [Zsv]; simp only [Int.ofNat_eq_natCast]; omega
  rw [Zff,e,Zf8 (by omega)]
def Zwf (n : Nat) : List Bool := (List.replicate n false).set (n - 1) true
theorem Z38 {n : Nat} {h : H} (hn : n ≤ 1000000) : oMk (E := E) 4 1 1 [.v (.bool false)] (.int .i64 (.ofNat n)) (.int .i64 (.ofNat n)) h = .ok (.row h.next 0 n n) (Vr h (.cells 4 ((List.replicate n false).map bD))) := by
  rw [Zke (by omega) (by omega)]
  congr 2
  have : ∀ m,repeatL [D.v (.bool false)] m = (List.replicate m false).map bD := by
    intro m
    induction m with
    | zero => rfl
    | succ m ih => rw [repeatL,ih,List.replicate_succ]; rfl
  rw [this]
def hU (F : D) (n : Nat) : H :=
  Vr (Vr (YF (YF (Vr (Vr (Vr UM (.cells 23 [F])) (.cells 4 ((List.replicate n false).map bD))) (.cells 146 [.v (.slice none 0 0)])) 3 (.cells 146 [.row 2 0 n n])) 2 (.cells 4 ((Zwf n).map bD))) (.cells 58 [.v (.slice none 0 0)])) (.cells 146 [.row 2 0 n n])
structure TU (F : D) (n : Nat) (t : Tr D) : Prop where
  g1 : Gt 1 t = .ptr 1 0
  g3 : Gt 3 t = .ptr 3 0
  g4 : Gt 4 t = .ptr 4 0
  g20 : Gt 20 t = .func (.func 91) [] [.ptr 5 0]
theorem Zq2 : UM.next = 1 := rfl
theorem Zf2 {cs : List D} : (D.ep cs).cells = [.ep cs] := rfl
set_option maxHeartbeats 4000000 in
theorem pre_ok (h105 : T 58 = k105) (F c0 : D) (ss rest : List D) (n : Nat) (hF : F = .ep (c0 :: .sl 0 n ss :: rest)) (hn0 : 0 < n) (hn : n ≤ 100000) (t : Tr D) (g0 : Gt 0 t = F) :
    VP E T Z3r t UM (fun e t0 h0 => e = .normal ∧ VP E T Z3q t0 h0 (fun e t1 h1 => e = .normal ∧ VP E T Z3p t1 h1 (fun e t2 h2 => e = .normal ∧ VP E T Z3o t2 h2 (fun e t3 h3 => e = .normal ∧ VP E T Z3n t3 h3 (fun e t4 h4 => e = .normal ∧ h4 = hU F n ∧ TU F n t4) Zd8) Zd8) Zd8) Zd8) Zd8 := by
  have hT0 : UM.next = 1 := rfl
  have hmk := fun h => Z38 (E := E) (n := n) (h := h) (by omega)
  have hsub : Zff .i64 (.ofNat n) (.ofNat 1) = .int .i64 (.ofNat (n - 1)) := Zwo (by omega) (by omega)
  have hix : ∀ h,Zci 1 (.row 2 0 n n) (.int .i64 (.ofNat (n - 1))) h = .ok (.ptr 2 (0 + (n - 1) * 1)) h := fun h => Zch (by omega)
  have hpat : patch ((List.replicate n false).map bD) ((n - 1) * 1) [.v (.bool true)] = some ((Zwf n).map bD) := by
    refine Zun (by simp; omega) ?_
    rw [Nat.mul_one]
    have := Z20 (gs := (List.replicate n false).map bD) (d := bD true) (i := n - 1) (by simp; omega)
    unfold Zwf
    rw [List.map_set]; exact this
  unfold Z3r
  repeat' (with_reducible (first | refine Yc ?_ | refine Yd ?_ | refine Xo ?_ | refine Xn ?_ | refine Yf ?_ | refine ZQ ?_ | refine Ye ?_ | refine Xp ?_ | simp (maxSteps := 2000000) (disch := first | omega | (simp only [Z8,Z7]; omega) | fail) only [go_sem,g0,hF,Zq2,Zf2]))
  try refine ⟨rfl, ?_⟩
  unfold Z3q
  repeat' (with_reducible (first | refine Yc ?_ | refine Yd ?_ | refine Xo ?_ | refine Xn ?_ | refine Yf ?_ | refine ZQ ?_ | refine Ye ?_ | refine Xp ?_ | simp (maxSteps := 2000000) (disch := first | omega | (simp only [Z8,Z7]; omega) | fail) only [go_sem,hmk,Zq2,patch,Zf2]))
  try refine ⟨rfl, ?_⟩
  unfold Z3p
  repeat' (with_reducible (first | refine Yc ?_ | refine Yd ?_ | refine Xo ?_ | refine Xn ?_ | refine Yf ?_ | refine ZQ ?_ | refine Ye ?_ | refine Xp ?_ | simp (maxSteps := 2000000) (disch := first | omega | (simp only [Z8,Z7]; omega) | fail) only [go_sem,hsub,hix,hpat,Zq2,Zf2]))
  try refine ⟨rfl, ?_⟩
  unfold Z3o
  repeat' (with_reducible (first | refine Yc ?_ | refine Yd ?_ | refine Xo ?_ | refine Xn ?_ | refine Yf ?_ | refine ZQ ?_ | refine Ye ?_ | refine Xp ?_ | simp (maxSteps := 2000000) (disch := first | omega | (simp only [Z8,Z7]; omega) | fail) only [go_sem,Zq2,Zf2]))
  try refine ⟨rfl, ?_⟩
  unfold Z3n
  repeat' (with_reducible (first | refine Yc ?_ | refine Yd ?_ | refine Xo ?_ | refine Xn ?_ | refine Yf ?_ | refine ZQ ?_ | refine Ye ?_ | refine Xp ?_ | simp (maxSteps := 2000000) (disch := first | omega | (simp only [Z8,Z7]; omega) | fail) only [go_sem,Zq2,Zf2]))
  refine Vl ?_
  refine Zd h105 ?_
  repeat' (with_reducible (first | refine Yc ?_ | refine Yd ?_ | refine Xo ?_ | refine Xn ?_ | refine Yf ?_ | refine ZQ ?_ | refine Ye ?_ | refine Xp ?_ | simp (maxSteps := 2000000) (disch := first | omega | (simp only [Z8,Z7]; omega) | fail) only [go_sem,Zq2,Zf2]))
  refine ⟨rfl,⟨?_, ?_, ?_, ?_⟩⟩ <;> simp (maxSteps := 2000000) (disch := first | omega | (simp only [Z8,Z7]; omega) | fail) only [go_sem]
end Run
end
end Go.Abs
