/- The range over slices.Backward of a row of ranges. -/
import Derived.RangeFuncNested
import Derived.RangeFuncBound
import Derived.RangeFuncCalls
import Derived.RangeFuncLeaves
import Derived.Shelf.Abstract
import Derived.Shelf.RegionOpen
import Derived.WalkKit
import Derived.OwnWalkIn
import Derived.TacticsInMore
import Derived.LoopNIn
import Derived.LoopIn
import Derived.Test.YthifolidfjpdkaaGreatDoorProg
set_option linter.unusedVariables false
set_option linter.unusedSimpArgs false
namespace Go.Proofs.Rg2
open Go.RowKit Go.Shelf
attribute [local go_sem] Oper.semAt_some
def Zl6 {α : Type} (f : Nat → α) (k : Nat) : List α := (List.range k).map f
theorem Zal {α : Type} (f : Nat → α) (k : Nat) : Zl6 f (k + 1) = Zl6 f k ++ [f k] := by simp [Zl6,List.range_succ]
theorem Zf0 {α : Type} (f : Nat → α) (k : Nat) : (Zl6 f k).length = k := by simp [Zl6]
abbrev El := Nat × ByteArray × Int × Int
def Z01 (x : El) : Array Value := #[.int .i64 (x.1 : Int),.agg #[.string x.2.1,.int .u64 x.2.2.1,.int .u64 x.2.2.2]]
def fe (nm : Nat → ByteArray) (z y : Nat → Int) (len k : Nat) : El := (len - 1 - k,nm (len - 1 - k),z (len - 1 - k),y (len - 1 - k))
set_option maxRecDepth 100000 in
set_option maxHeartbeats 2000000 in
theorem Zqi (F : Fence) (n : Nat) (h7 : F.fn 351) (hro : F.round = none) (hn : 1 ≤ n) (l Bs n₀ b off len cap : Nat) (nm : Nat → ByteArray) (z y : Nat → Int) (hreach : len ≤ 1000000) (hb : b < n₀) (J Jx : List El → World → Prop)
    (hY : ∀ pre x W,J pre W → pre.length < len → YieldAt F (n - 1) Tryz.prog l #[.int .i64 (x.1 : Int),.agg #[.string x.2.1,.int .u64 x.2.2.1,.int .u64 x.2.2.2]] W fun e W' =>
      (e = .returned (.bool true) ∧ J (pre ++ [x]) W' ∧ Below n₀ W W') ∨ (e = .returned (.bool false) ∧ Jx (pre ++ [x]) W'))
    (W : World) (hBs : W.cell? ⟨Bs,0,none⟩ = some (.slice (some ⟨b,off,none⟩) len cap))
    (hc : ∀ j,j < len → W.cell? ⟨b,off + j * 3,none⟩ = some (.string (nm j)) ∧ W.cell? ⟨b,off + j * 3 + 1,none⟩ = some (.int .u64 (z j)) ∧ W.cell? ⟨b,off + j * 3 + 2,none⟩ = some (.int .u64 (y j))) (hBn : Bs < n₀) (h0 : J [] W) :
    CallsIn F n Tryz.prog 351 #[.func (.yield l) #[] #[],.pointer (some ⟨Bs,0,none⟩)] W fun e W' => (∃ v,e = .returned v) ∧
      ((∃ ys,ys = Zl6 (fe nm z y len) len ∧ J ys W') ∨ (∃ pre,(∃ k,k ≤ len ∧ pre = Zl6 (fe nm z y len) k) ∧ Jx pre W')) := by
  refine callsIn_of_wp Tryz.func351 rfl h7 ?_ hro
  simp only [Tryz.ntmps351,List.size_toArray,List.length_cons,List.length_nil,Nat.reduceAdd,Nat.reduceSub,Array.replicate_succ,Array.replicate_zero,List.push_toArray,List.append_toArray,List.nil_append,List.cons_append]
  gi_wp2
  gi_loopw [3] (fun i wr => ∃ k : Nat,k ≤ len ∧ i = .int .i64 ((len : Int) - 1 - k) ∧ J (Zl6 (fe nm z y len) k) wr ∧ Below n₀ W wr)
    (fun i _ => (intOf i + 1).toNat)
  case atStart => exact ⟨0,Nat.zero_le _,by simp,h0,Below.refl _ _⟩
  case round =>
    obtain ⟨k,hk,rfl,hJs,hnx⟩ := hrel
    have hBs' : wr.cell? ⟨Bs,0,none⟩ = some (.slice (some ⟨b,off,none⟩) len cap) := (hnx.cell (p := ⟨Bs,0,none⟩) hBn).trans hBs
    by_cases hlt : k < len
    · obtain ⟨j,hj⟩ : ∃ j : Nat,len - 1 - k = j := ⟨_,rfl⟩
      have hji : (len : Int) - 1 - k = (j : Int) := by omega
      have hjl : j < len := by omega
      have hc1 := (hnx.cell (p := ⟨b,off + j * 3,none⟩) hb).trans (hc j hjl).1
      have hc2 := (hnx.cell (p := ⟨b,off + j * 3 + 1,none⟩) hb).trans (hc j hjl).2.1
      have hc3 := (hnx.cell (p := ⟨b,off + j * 3 + 2,none⟩) hb).trans (hc j hjl).2.2
      obtain ⟨fn,tmps,assign,body,hy,hR⟩ := hY _ (j,nm j,z j,y j) wr hJs (by rw [Zf0]; exact hlt)
      dsimp only at hy
      rw [hji]
      gi_wp2
      refine hR.mono ?_
      rintro e W3 (⟨rfl,hJ3,hk3⟩ | ⟨rfl,hJx3⟩)
      · gi_wp2
        go_roundw
        case rel => exact ⟨k + 1,by omega,by simp; omega,by rw [Zal]; simp only [fe,hj]; exact hJ3,hnx.trans hk3⟩
        case measure => simp [intOf] <;> omega
      · gi_wp2
        refine bodyPost_ret (results_none rfl _ _ _) rfl ?_
        exact ⟨⟨_,rfl⟩,.inr ⟨_,⟨k + 1,by omega,by rw [Zal]; simp only [fe,hj]⟩,hJx3⟩⟩
    · obtain rfl : k = len := by omega
      have : (k : Int) - 1 - k = -1 := by omega
      rw [this]
      gi_wp2
      go_end0
      exact ⟨⟨_,rfl⟩,.inl ⟨_,rfl,hJs⟩⟩
set_option maxRecDepth 100000 in
set_option maxHeartbeats 1000000 in
theorem Znf (F : Fence) (n : Nat) (h7 : F.fn 351) (hro : F.round = none) (l Bs : Nat) (a : Option Addr) (cap : Nat) (J : List El → World → Prop)
    (W : World) (hBs : W.cell? ⟨Bs,0,none⟩ = some (.slice a 0 cap)) (h0 : J [] W) :
    CallsIn F n Tryz.prog 351 #[.func (.yield l) #[] #[],.pointer (some ⟨Bs,0,none⟩)] W fun e W' => (∃ v,e = .returned v) ∧ J [] W' := by
  refine callsIn_of_wp Tryz.func351 rfl h7 ?_ hro
  simp only [Tryz.ntmps351,List.size_toArray,List.length_cons,List.length_nil,Nat.reduceAdd,Nat.reduceSub,Array.replicate_succ,Array.replicate_zero,List.push_toArray,List.append_toArray,List.nil_append,List.cons_append]
  gi_wp2
  gi_loopw [3] (fun i wr => i = .int .i64 (-1) ∧ J [] wr) (fun _ _ => 0)
  case atStart => exact ⟨rfl,h0⟩
  case round =>
    obtain ⟨rfl,hJs⟩ := hrel
    gi_wp2
    go_end0
    exact ⟨⟨_,rfl⟩,hJs⟩
set_option maxHeartbeats 1000000 in
theorem Zgo (F : Fence) (n : Nat) (h5 : F.fn 346) (hro : F.round = none) (a : Option Addr) (len cap : Nat) (w : World) :
    CallsIn F n Tryz.prog 346 #[.slice a len cap] w fun e w' => e = .returned (.func (.func 351) #[] #[.pointer (some ⟨w.heap.size,0,none⟩)]) ∧ w' = w.alloc (.cells #[.slice a len cap] 184) := by
  refine callsIn_of_wp Tryz.func346 rfl h5 ?_ hro
  simp only [Tryz.ntmps346,List.size_toArray,List.length_cons,List.length_nil,Nat.reduceAdd,Nat.reduceSub,Array.replicate_succ,Array.replicate_zero,List.push_toArray,List.append_toArray,List.nil_append,List.cons_append]
  gi_wp2
  go_ret
  exact ⟨rfl,rfl⟩
def Z1w (n₀ : Nat) (W : World) (a : Option Addr) (len : Nat) (nm : Nat → ByteArray) (z y : Nat → Int) : Prop :=
  len = 0 ∨ ∃ b off,a = some ⟨b,off,none⟩ ∧ b < n₀ ∧ ∀ j,j < len → W.cell? ⟨b,off + j * 3,none⟩ = some (.string (nm j)) ∧ W.cell? ⟨b,off + j * 3 + 1,none⟩ = some (.int .u64 (z j)) ∧ W.cell? ⟨b,off + j * 3 + 2,none⟩ = some (.int .u64 (y j))
theorem Z1w.below {m n₀ : Nat} {A B : World} (h : Below m A B) (hm : n₀ ≤ m) {a : Option Addr} {len : Nat} {nm : Nat → ByteArray} {z y : Nat → Int} : Z1w n₀ A a len nm z y → Z1w m B a len nm z y
  | .inl e => .inl e
  | .inr ⟨b,off,e,hb,hc⟩ => .inr ⟨b,off,e,by omega,fun j hj => ⟨(h.cell (p := ⟨b,off + j * 3,none⟩) (by show b < m; omega)).trans (hc j hj).1,(h.cell (p := ⟨b,off + j * 3 + 1,none⟩) (by show b < m; omega)).trans (hc j hj).2.1,(h.cell (p := ⟨b,off + j * 3 + 2,none⟩) (by show b < m; omega)).trans (hc j hj).2.2⟩⟩
theorem Zh4 (F : Fence) (n : Nat) (h7 : F.fn 351) (hro : F.round = none) (hn : 1 ≤ n) (Bs n₀ : Nat) (a : Option Addr) (len cap : Nat) (nm : Nat → ByteArray) (z y : Nat → Int) (hreach : len ≤ 1000000) (w : World) (hBs : Bs < n₀) (hn₀ : n₀ ≤ w.heap.size)
    (hc : w.cell? ⟨Bs,0,none⟩ = some (.slice a len cap)) (hI : Z1w n₀ w a len nm z y) :
    SeqStopsK F n Tryz.prog 351 #[.pointer (some ⟨Bs,0,none⟩)] Z01 (Below n₀) (fun ys => ys = Zl6 (fe nm z y len) len) (fun pre => ∃ k,k ≤ len ∧ pre = Zl6 (fe nm z y len) k) len w := fun l J Jx W hW _ _ hY h0 => by
  have hc' := (hW.cell (p := ⟨Bs,0,none⟩) (by show Bs < _; omega)).trans hc
  rcases hI.below (hW.mono hn₀) (Nat.le_refl _) with rfl | ⟨b,off,rfl,hb,hcs⟩
  · exact (Znf F n h7 hro l Bs a cap J W hc' h0).mono fun e W' ⟨he,hj⟩ => ⟨he,.inl ⟨_,rfl,hj⟩⟩
  · refine (Zqi F n h7 hro hn l Bs n₀ b off len cap nm z y hreach hb J Jx hY W hc' hcs hBs h0).mono ?_
    rintro e W' ⟨he,⟨ys,rfl,hj⟩ | ⟨pre,hk,hj⟩⟩
    · exact ⟨he,.inl ⟨_,rfl,hj⟩⟩
    · exact ⟨he,.inr ⟨_,hk,hj⟩⟩
def last (nm : Nat → ByteArray) (z y : Nat → Int) (s : ByteArray) : Nat → Int × Int × Bool
  | 0 => (0,0,false)
  | k + 1 => if nm k = s then (z k,y k,decide (z k ≤ y k)) else last nm z y s k
theorem Zem (nm : Nat → ByteArray) (z y : Nat → Int) (s : ByteArray) : ∀ len,(∀ j,j < len → nm j ≠ s) → last nm z y s len = (0,0,false)
  | 0,_ => rfl
  | k + 1,h => by rw [last,if_neg (h k (Nat.lt_succ_self k))]; exact Zem nm z y s k fun j hj => h j (Nat.lt_succ_of_lt hj)
theorem Zel (nm : Nat → ByteArray) (z y : Nat → Int) (s : ByteArray) (k : Nat) (hk : nm k = s) : ∀ len,k < len → (∀ j,k < j → j < len → nm j ≠ s) → last nm z y s len = (z k,y k,decide (z k ≤ y k))
  | 0,h,_ => by omega
  | m + 1,h,hn => by
    by_cases e : m = k
    · subst e; rw [last,if_pos hk]
    · rw [last,if_neg (hn m (by omega) (Nat.lt_succ_self m))]
      exact Zel nm z y s k hk m (by omega) fun j h1 h2 => hn j h1 (Nat.lt_succ_of_lt h2)
theorem Ztq {a b : ByteArray} (h : (a.toList == b.toList) = true) : a = b := by
  have h := eq_of_beq h
  rw [ByteArray.toList_eq,ByteArray.toList_eq] at h
  cases a; cases b; simp at h; rw [h]
theorem Ztp {a b : ByteArray} (h : (a.toList == b.toList) = false) : a ≠ b := by
  rintro rfl; simp at h
def Zl5 (W : World) (B : Nat) (t : TypeId) (x y z : Value) : Prop := W.heap[B]? = some (.cells #[x,y,z] t (0,0))
theorem Zl5.lt {W : World} {B : Nat} {t : TypeId} {x y z : Value} (h : Zl5 W B t x y z) : B < W.heap.size := (Array.getElem?_eq_some_iff.1 h).1
theorem Zl5.cell0 {W : World} {B : Nat} {t : TypeId} {x y z : Value} (h : Zl5 W B t x y z) : W.cell? ⟨B,0,none⟩ = some x := by simp [World.cell?,show W.heap[B]? = _ from h]
theorem Zl5.cell1 {W : World} {B : Nat} {t : TypeId} {x y z : Value} (h : Zl5 W B t x y z) : W.cell? ⟨B,1,none⟩ = some y := by simp [World.cell?,show W.heap[B]? = _ from h]
theorem Zl5.cell2 {W : World} {B : Nat} {t : TypeId} {x y z : Value} (h : Zl5 W B t x y z) : W.cell? ⟨B,2,none⟩ = some z := by simp [World.cell?,show W.heap[B]? = _ from h]
theorem Zl5.frozen {W : World} {B : Nat} {t : TypeId} {x y z : Value} (h : Zl5 W B t x y z) (i : Nat) : W.frozen? ⟨B,i,none⟩ = false := by simp [World.frozen?,show W.heap[B]? = _ from h]
theorem Zl5.kept {W W' : World} {row : Option Nat} {B : Nat} {t : TypeId} {x y z : Value} (h : Zl5 W B t x y z) (hg : W.grownBy W' row) (hne : some B ≠ row) : Zl5 W' B t x y z := (hg.block B h.lt hne).trans h
theorem Zl5.alloc {W : World} {B : Nat} {t : TypeId} {x y z : Value} (h : Zl5 W B t x y z) (o : Obj) : Zl5 (W.alloc o) B t x y z := h.kept (World.grownBy_alloc W o none) (by simp)
theorem Zl5.set {W : World} {B : Nat} {t : TypeId} {x y z x' y' z' : Value} (h : Zl5 W B t x y z) : Zl5 (((W.setCell ⟨B,0,none⟩ x').setCell ⟨B,1,none⟩ y').setCell ⟨B,2,none⟩ z') B t x' y' z' := by
  have hl := h.lt
  unfold Zl5 at h ⊢
  simp [World.setCell,Array.getElem?_modify,h]
theorem Zzi {β : Type} (B : Nat) (t : TypeId) (f g k : β → Value) : Own (fun s W => Zl5 W B t (f s) (g s) (k s)) := fun s X Y row hs hg hrow =>
  hs.kept hg (fun e' => by obtain ⟨o,ho,hc⟩ := hrow B e'.symm; rw [show X.heap[B]? = _ from hs] at ho; cases ho; cases hc)
set_option maxHeartbeats 1000000 in
theorem Z8b (F : Fence) (n : Nat) (h5 : F.fn 347) (hro : F.round = none) (lo hi : Int) (w : World) :
    CallsIn F n Tryz.prog 347 #[.agg #[.int .u64 lo,.int .u64 hi]] w fun e w' => e = .returned (.bool (decide (lo ≤ hi))) ∧ w' = w.alloc (.cells #[.int .u64 lo,.int .u64 hi] 239) := by
  refine callsIn_of_wp Tryz.func347 rfl h5 ?_ hro
  simp only [Tryz.ntmps347,List.size_toArray,List.length_cons,List.length_nil,Nat.reduceAdd,Nat.reduceSub,Array.replicate_succ,Array.replicate_zero,List.push_toArray,List.append_toArray,List.nil_append,List.cons_append]
  gi_wp2
  go_ret
  exact ⟨rfl,rfl⟩
set_option maxRecDepth 100000 in
set_option maxHeartbeats 4000000 in
theorem name_in (F : Fence) (n : Nat) (h4 : F.fn 331) (h6 : F.fn 346) (h8 : F.fn 351) (h9 : F.fn 347) (hro : F.round = none) (hn : 4 ≤ n) (rb ro : Nat) (a : Option Addr) (len cap : Nat) (nm : Nat → ByteArray) (z y : Nat → Int) (s : ByteArray) (hreach : len ≤ 1000000) (w : World)
    (hv : w.cell? ⟨rb,ro + 1,none⟩ = some (.slice a len cap)) (hI : Z1w w.heap.size w a len nm z y) :
    CallsIn F n Tryz.prog 331 #[.pointer (some ⟨rb,ro,none⟩),.string s] w fun e W' => e = .returned (.agg #[.int .u64 (last nm z y s len).1,.int .u64 (last nm z y s len).2.1,.bool (last nm z y s len).2.2]) ∧ Below w.heap.size w W' := by
  have h1 : 1 ≤ n := by omega
  refine callsIn_of_wp_marks Tryz.func331 rfl h4 ?_ hro
  simp only [Tryz.ntmps331,List.size_toArray,List.length_cons,List.length_nil,Nat.reduceAdd,Nat.reduceSub,Array.replicate_succ,Array.replicate_zero,List.push_toArray,List.append_toArray,List.nil_append,List.cons_append]
  have hrb : rb < w.heap.size := by have := World.block_lt_of_cell? w _ hv; simpa using this
  gi_wp2_with (gi_at_call 346; refine (Zgo F (n - 1) h6 hro _ _ _ _).mono ?_; rintro e w' ⟨rfl,rfl⟩)
  obtain ⟨W0,hW0⟩ : ∃ W0,((w.alloc (.cells #[.string s] 9)).alloc (.cells #[.int .u64 0,.int .u64 0,.bool false] 430)).alloc (.cells #[.slice a len cap] 184) = W0 := ⟨_,rfl⟩
  have bN := ((Boxed.new w 9 (.string s)).alloc (.cells #[.int .u64 0,.int .u64 0,.bool false] 430)).alloc (.cells #[.slice a len cap] 184)
  have bR : Zl5 (((w.alloc (.cells #[.string s] 9)).alloc (.cells #[.int .u64 0,.int .u64 0,.bool false] 430)).alloc (.cells #[.slice a len cap] 184)) (w.heap.size + 1) 430 (.int .u64 0) (.int .u64 0) (.bool false) := by
    have := World.alloc_heap_new (w.alloc (.cells #[.string s] 9)) (.cells #[.int .u64 0,.int .u64 0,.bool false] 430)
    rw [World.size_alloc] at this
    exact Zl5.alloc (show Zl5 _ _ _ _ _ _ from this) _
  have bS := Boxed.new ((w.alloc (.cells #[.string s] 9)).alloc (.cells #[.int .u64 0,.int .u64 0,.bool false] 430)) 184 (.slice a len cap)
  simp only [World.size_alloc] at bS
  have hB0 : Below w.heap.size w (((w.alloc (.cells #[.string s] 9)).alloc (.cells #[.int .u64 0,.int .u64 0,.bool false] 430)).alloc (.cells #[.slice a len cap] 184)) := (((Below.refl _ w).alloc (Nat.le_refl _) _).alloc (by simp) _).alloc (by simp; omega) _
  have hsz : (((w.alloc (.cells #[.string s] 9)).alloc (.cells #[.int .u64 0,.int .u64 0,.bool false] 430)).alloc (.cells #[.slice a len cap] 184)).heap.size = w.heap.size + 3 := by simp
  rw [hW0] at bN bR bS hB0 hsz ⊢
  clear hW0
  have hE : Z1w (w.heap.size + 3) W0 a len nm z y := by
    rcases hI with h | ⟨b,off,e,hb,hc⟩
    · exact .inl h
    · exact .inr ⟨b,off,e,by omega,fun j hj => ⟨(hB0.cell (p := ⟨b,off + j * 3,none⟩) hb).trans (hc j hj).1,(hB0.cell (p := ⟨b,off + j * 3 + 1,none⟩) hb).trans (hc j hj).2.1,(hB0.cell (p := ⟨b,off + j * 3 + 2,none⟩) hb).trans (hc j hj).2.2⟩⟩
  refine wpIn_rangeFunc_ownH hro h1 (gf := 351) (lb := #[.pointer (some ⟨w.heap.size + 1 + 1,0,none⟩)]) rfl h8 (enters_of Tryz.func351 (by kernel_rfl) rfl)
    (Zh4 F (n - 1) h8 hro (by omega) (w.heap.size + 1 + 1) (w.heap.size + 3) a len cap nm z y hreach W0 (by omega) (by omega) bS.cell hE) belowK_t (belowK_b (by omega)) (Below.refl _ _) (fun _ => rfl)
    (fun pre W => ((∀ p ∈ pre,p.2.1 ≠ s) ∧ Boxed W w.heap.size 9 (.string s) ∧ Zl5 W (w.heap.size + 1) 430 (.int .u64 0) (.int .u64 0) (.bool false) ∧ Boxed W (w.heap.size + 1 + 1) 184 (.slice a len cap)) ∧ Below w.heap.size w W)
    (fun c pre W => (c = .ret ∧ ∃ ini lst,pre = ini ++ [lst] ∧ (∀ p ∈ ini,p.2.1 ≠ s) ∧ lst.2.1 = s ∧ W.cell? ⟨w.heap.size + 1,0,none⟩ = some (.int .u64 lst.2.2.1) ∧ W.cell? ⟨w.heap.size + 1,1,none⟩ = some (.int .u64 lst.2.2.2) ∧ W.cell? ⟨w.heap.size + 1,2,none⟩ = some (.bool (decide (lst.2.2.1 ≤ lst.2.2.2)))) ∧ Below w.heap.size w W)
    (OwnFrom.and (OwnFrom.and (Own.from (fun s A B row hs hg hr => hs) _) (OwnFrom.and (Own.from (boxed_own _ _ _) _) (OwnFrom.and (Own.from (Zzi _ _ _ _ _) _) (Own.from (boxed_own _ _ _) _)))) (ownFrom_below (Nat.le_refl _) (by omega)))
    (fun c => OwnFrom.and (Own.from (fun s A B row hs hg hr => by obtain ⟨hc,ini,lst,e1,e2,e3,e4,e5,e6⟩ := hs; exact ⟨hc,ini,lst,e1,e2,e3,cell_kept e4 hg hr,cell_kept e5 hg hr,cell_kept e6 hg hr⟩) _) (ownFrom_below (Nat.le_refl _) (by omega)))
    ⟨⟨by simp,bN,bR,bS⟩,hB0⟩
    (fun x a' W => ∃ Bx,W.cell? ⟨Bx,0,none⟩ = some (.string x.2.1) ∧ W.cell? ⟨Bx,1,none⟩ = some (.int .u64 x.2.2.1) ∧ W.cell? ⟨Bx,2,none⟩ = some (.int .u64 x.2.2.2) ∧ a' = { tmps := #[.pointer (some ⟨rb,ro,none⟩),.string s,undef,.pointer (some ⟨w.heap.size,0,none⟩),.pointer (some ⟨w.heap.size + 1,0,none⟩),undef,.pointer (some ⟨Bx,0,none⟩),.pointer (some ⟨rb,ro,none⟩),.pointer (some ⟨rb,ro,none⟩),.pointer (some ⟨rb,ro + 1,none⟩),.slice a len cap,.func (.func 351) #[] #[.pointer (some ⟨w.heap.size + 1 + 1,0,none⟩)],.int .i64 (x.1 : Int),.agg #[.string x.2.1,.int .u64 x.2.2.1,.int .u64 x.2.2.2],undef,undef,undef,undef,undef,undef,undef,undef,undef,undef,undef],defers := [] })
    (fun x a' _ X Y row hs hg hr => by obtain ⟨Bx,e1,e2,e3,e4⟩ := hs; exact ⟨Bx,cell_kept e1 hg (fun r e => (hr r e).2),cell_kept e2 hg (fun r e => (hr r e).2),cell_kept e3 hg (fun r e => (hr r e).2),e4⟩)
    ?assign ?body ?done ?stop
  case assign =>
    rintro l pre x W K ⟨⟨hp,bN1,bR1,bS1⟩,hB1⟩ hK
    simp only [Z01]
    gi_wp2
    have hlt4 := bS1.lt
    exact hK _ _ ((KeepsOthers.alloc _ _).from _) ((Below.refl _ W).alloc (by omega) _) ⟨⟨hp,bN1.alloc _,bR1.alloc _,bS1.alloc _⟩,hB1.alloc hB1.size _⟩ ⟨W.heap.size,by simp,by simp,by simp,rfl⟩
  case body =>
    rintro l pre x a' W hl ⟨r,hr⟩ ⟨⟨hp,bN1,bR1,bS1⟩,hB1⟩ ⟨Bx,c1,c2,c3,rfl⟩ hlt
    have cN := bN1.cell
    have cR0 := bR1.cell0
    have cR1 := bR1.cell1
    have cR2 := bR1.cell2
    have fR0 := bR1.frozen 0
    have fR1 := bR1.frozen 1
    have fR2 := bR1.frozen 2
    have hblt : Bx < W.heap.size := by have := World.block_lt_of_cell? W _ c1; simpa using this
    have hrlt := bR1.lt
    have h1' : 1 ≤ n - 1 - 1 := by omega
    have mixed : Tryz.prog.follows .mixedOrders = true := by kernel_rfl
    gi_wp2
    · gi_region_with_o (gi_at_call 347; refine (CallsIn.inRound l (Z8b F (n - 1 - 1 - 1) h9 hro _ _ _)).mono ?_; rintro e w' ⟨rfl,rfl⟩)
      all_goals gi_wp2
      all_goals
        have hx := Ztq (by assumption : (x.2.1.toList == s.toList) = true)
        have hrow : Zl5 ((((W.setCell ⟨w.heap.size + 1,0,none⟩ (.int .u64 x.2.2.1)).setCell ⟨w.heap.size + 1,1,none⟩ (.int .u64 x.2.2.2)).setCell ⟨w.heap.size + 1,2,none⟩ (.bool (decide (x.2.2.1 ≤ x.2.2.2)))).alloc (.cells #[.int .u64 x.2.2.1,.int .u64 x.2.2.2] 239)).drew (w.heap.size + 1) 430 (.int .u64 x.2.2.1) (.int .u64 x.2.2.2) (.bool (decide (x.2.2.1 ≤ x.2.2.2))) := bR1.set.alloc _
        exact ⟨(((((KeepsOthers.setCell _ _ _).trans (KeepsOthers.setCell _ _ _)).trans (KeepsOthers.setCell _ _ _)).trans (KeepsOthers.alloc _ _)).trans (KeepsOthers.drew _)).from _,
          ⟨rfl,pre,x,rfl,hp,hx,hrow.cell0,hrow.cell1,hrow.cell2⟩,
          ((((hB1.setCell (p := ⟨w.heap.size + 1,0,none⟩) (by simp) _).setCell (p := ⟨w.heap.size + 1,1,none⟩) (by simp) _).setCell (p := ⟨w.heap.size + 1,2,none⟩) (by simp) _).alloc (by simp [World.setCell]; exact hB1.size) _).drew⟩
    · have hx := Ztp (by assumption : (x.2.1.toList == s.toList) = false)
      exact ⟨KeepsFrom.refl _ _,Below.refl _ _,⟨fun p hp' => (List.mem_append.1 hp').elim (hp p) (fun e => by simp at e; subst e; exact hx),bN1,bR1,bS1⟩,hB1⟩
  case done =>
    rintro D ys W hD rfl ⟨⟨hp,bN1,bR1,bS1⟩,hB1⟩ hK
    have cR0 := bR1.cell0
    have cR1 := bR1.cell1
    have cR2 := bR1.cell2
    have fR0 := bR1.frozen 0
    have fR1 := bR1.frozen 1
    have fR2 := bR1.frozen 2
    gi_wp2
    have hK' := (((KeepsOthers.setCell W ⟨w.heap.size + 1,0,none⟩ (.int .u64 0)).trans (KeepsOthers.setCell _ ⟨w.heap.size + 1,1,none⟩ (.int .u64 0))).trans (KeepsOthers.setCell _ ⟨w.heap.size + 1,2,none⟩ (.bool false))).same D _ hK rfl
    refine ⟨by simp,.inl ⟨_,_,rfl,run_takeDeferred hK',?_⟩⟩
    have hrow : Zl5 (((W.setCell ⟨w.heap.size + 1,0,none⟩ (.int .u64 0)).setCell ⟨w.heap.size + 1,1,none⟩ (.int .u64 0)).setCell ⟨w.heap.size + 1,2,none⟩ (.bool false)) (w.heap.size + 1) 430 (.int .u64 0) (.int .u64 0) (.bool false) := bR1.set
    have hc5 := cell_kept hrow.cell0 (grownBy_putObj' _ D (.deferred none)) (fun r e => by cases e; exact ⟨_,hK',rfl⟩)
    have hc6 := cell_kept hrow.cell1 (grownBy_putObj' _ D (.deferred none)) (fun r e => by cases e; exact ⟨_,hK',rfl⟩)
    have hc7 := cell_kept hrow.cell2 (grownBy_putObj' _ D (.deferred none)) (fun r e => by cases e; exact ⟨_,hK',rfl⟩)
    have hl0 : last nm z y s len = (0,0,false) := Zem nm z y s len fun j hj => by
      have := hp (fe nm z y len (len - 1 - j)) (by simp only [Zl6,List.mem_map,List.mem_range]; exact ⟨len - 1 - j,by omega,rfl⟩)
      simp only [fe] at this
      rwa [show len - 1 - (len - 1 - j) = j by omega] at this
    rw [hl0]
    refine ⟨.agg #[.int .u64 0,.int .u64 0,.bool false],?_,rfl,(((hB1.setCell (p := ⟨w.heap.size + 1,0,none⟩) (by simp) _).setCell (p := ⟨w.heap.size + 1,1,none⟩) (by simp) _).setCell (p := ⟨w.heap.size + 1,2,none⟩) (by simp) _).trans (belowK_b (w := w) (Nat.le_refl _) _ D _ _ (by omega) hK' rfl rfl)⟩
    simp [results,Tryz.f331,go_sem,hc5,hc6,hc7]
  case stop =>
    rintro D c pre W hD ⟨k,hk,rfl⟩ ⟨⟨rfl,ini,lst,e1,e2,e3,hc5,hc6,hc7⟩,hB⟩ hK
    gi_wp2
    refine ⟨by simp,.inl ⟨_,_,rfl,run_takeDeferred hK,?_⟩⟩
    have hc5 := cell_kept hc5 (grownBy_putObj' _ D (.deferred none)) (fun r e => by cases e; exact ⟨_,hK,rfl⟩)
    have hc6 := cell_kept hc6 (grownBy_putObj' _ D (.deferred none)) (fun r e => by cases e; exact ⟨_,hK,rfl⟩)
    have hc7 := cell_kept hc7 (grownBy_putObj' _ D (.deferred none)) (fun r e => by cases e; exact ⟨_,hK,rfl⟩)
    obtain ⟨k',rfl⟩ : ∃ k',k = k' + 1 := by
      cases k with
      | zero => simp [Zl6] at e1
      | succ k' => exact ⟨k',rfl⟩
    rw [Zal] at e1
    obtain ⟨rfl,e5⟩ := List.append_inj' e1 rfl
    obtain rfl : fe nm z y len k' = lst := by simpa using e5
    have hl0 := Zel nm z y s (len - 1 - k') e3 len (by omega) fun j h1 h2 => by
      have := e2 (fe nm z y len (len - 1 - j)) (by simp only [Zl6,List.mem_map,List.mem_range]; exact ⟨len - 1 - j,by omega,rfl⟩)
      simp only [fe] at this
      rwa [show len - 1 - (len - 1 - j) = j by omega] at this
    rw [hl0]
    simp only [fe] at hc5 hc6 hc7
    refine ⟨.agg #[.int .u64 (z (len - 1 - k')),.int .u64 (y (len - 1 - k')),.bool (decide (z (len - 1 - k') ≤ y (len - 1 - k')))],?_,rfl,hB.trans (belowK_b (w := w) (Nat.le_refl _) W D _ _ (by omega) hK rfl rfl)⟩
    simp [results,Tryz.f331,go_sem,hc5,hc6,hc7]
    rfl
end Go.Proofs.Rg2
