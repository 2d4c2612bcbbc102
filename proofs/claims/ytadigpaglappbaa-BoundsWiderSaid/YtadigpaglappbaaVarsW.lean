/- The walk of calliperlaw11.vars. -/
import Derived.Test.YtadigpaglappbaaBounds3T
import Derived.Test.YtadigpaglappbaaExprN
import Derived.OwnWalk
import Derived.WalkSmall
import Derived.Maps.AppendAt
set_option linter.unusedVariables false
namespace Go.Proofs.Ytadigpaglappbaa.VarsW
open Go.RowKit Go.Proofs.Ytadigpaglappbaa.Word Go.Proofs.Ytadigpaglappbaa.WordW Go.Proofs.Ytadigpaglappbaa.BoundsN Go.Proofs.Ytadigpaglappbaa.BoundsW Go.Proofs.Ytadigpaglappbaa.Mem

/-- A name with a range and a number. -/
structure V where
  name : ByteArray
  lo : Int
  hi : Int
  n : Int

/-- v is a slice of n elements of so many cells each, with these cells. -/
def Sl (w : World) (v : Value) (n size : Nat) (c : Nat → Nat → Value) : Prop :=
  ∃ (a : Option Addr) (cap : Nat), v = .slice a n cap ∧ n ≤ cap ∧ n ≤ maxLen ∧ (n ≠ 0 → ∃ b o, a = some ⟨b, o, none⟩ ∧ ∀ i j, i < n → j < size → w.cell? ⟨b, o + i * size + j, none⟩ = some (c i j)) ∧ (a = none → cap = 0)

def vcell (vs : List V) (i j : Nat) : Value :=
  match vs[i]? with
  | none => Go.undef
  | some v => if j = 0 then .string v.name else if j = 1 then .int .u64 v.lo else if j = 2 then .int .u64 v.hi else .int .u64 v.n
theorem vcell_at {vs : List V} {i : Nat} {x : V} (h : vs[i]? = some x) : vcell vs i 0 = .string x.name ∧ vcell vs i 1 = .int .u64 x.lo ∧ vcell vs i 2 = .int .u64 x.hi ∧ vcell vs i 3 = .int .u64 x.n := by
  unfold vcell; rw [h]; exact ⟨rfl, rfl, rfl, rfl⟩

def acells (vs : List V) : List Value := vs.flatMap fun v => [.string v.name, .int .u64 v.lo, .int .u64 v.hi]
def ecells (vs : List V) : List Value := vs.flatMap fun v => [.string v.name, .int .u64 (max v.lo (min v.n v.hi))]
theorem acells_succ {vs : List V} {k : Nat} {x : V} (h : vs[k]? = some x) : acells (vs.take (k + 1)) = acells (vs.take k) ++ [.string x.name, .int .u64 x.lo, .int .u64 x.hi] := by
  unfold acells; rw [List.take_add_one, h]; simp
theorem ecells_succ {vs : List V} {k : Nat} {x : V} (h : vs[k]? = some x) : ecells (vs.take (k + 1)) = ecells (vs.take k) ++ [.string x.name, .int .u64 (max x.lo (min x.n x.hi))] := by
  unfold ecells; rw [List.take_add_one, h]; simp

/-- Two rows of two types of elements lie apart. -/
theorem own_ne {w : World} {B B' : Nat} {e e' : TypeId} {s s' : Nat} {v v' : Value} {n n' : Nat} {xs xs' : List Value} (h : w.ownsRow B e s v n xs) (h' : w.ownsRow B' e' s' v' n' xs') (hne : e ≠ e') : v.ownBlock = none ∨ v.ownBlock ≠ v'.ownBlock := by
  rcases h.2 with ⟨rfl, _⟩ | ⟨g, cap, cur, rfl, _, hg, _⟩
  · exact .inl rfl
  · rcases h'.2 with ⟨rfl, _⟩ | ⟨g', cap', cur', rfl, _, hg', _⟩
    · exact .inr (by simp [Value.ownBlock])
    · refine .inr fun hq => hne ?_
      simp [Value.ownBlock] at hq
      subst hq
      rw [hg] at hg'
      simp at hg'
      exact hg'.2
theorem own_not {w : World} {B : Nat} {e : TypeId} {s : Nat} {v : Value} {n : Nat} {xs : List Value} (h : w.ownsRow B e s v n xs) {b : Nat} (hb : w.heap.size ≤ b) : some b ≠ v.ownBlock := by
  intro hq
  have := (h.lt b hq.symm).2
  omega
theorem lit3 {w : World} {b : Nat} (hb : b = w.heap.size) {x y z : Value} {t : TypeId} : ∀ j u, [x, y, z][j]? = some u → (w.alloc (.cells #[x, y, z] t)).cell? ((⟨b, 0, none⟩ : Addr).add j) = some u := by
  subst hb
  intro j u hj
  match j, hj with
  | 0, hj => simp at hj; subst hj; simp [Addr.add]
  | 1, hj => simp at hj; subst hj; simp [Addr.add]
  | 2, hj => simp at hj; subst hj; simp [Addr.add]
theorem lit2 {w : World} {b : Nat} (hb : b = w.heap.size) {x y : Value} {t : TypeId} : ∀ j u, [x, y][j]? = some u → (w.alloc (.cells #[x, y] t)).cell? ((⟨b, 0, none⟩ : Addr).add j) = some u := by
  subst hb
  intro j u hj
  match j, hj with
  | 0, hj => simp at hj; subst hj; simp [Addr.add]
  | 1, hj => simp at hj; subst hj; simp [Addr.add]
theorem one3 {x y z : Value} (hx : x.oneCell' = true) (hy : y.oneCell' = true) (hz : z.oneCell' = true) : ∀ u ∈ [x, y, z], u.oneCell' = true := by
  intro u hu; simp at hu; rcases hu with rfl | rfl | rfl <;> assumption
theorem one2 {x y : Value} (hx : x.oneCell' = true) (hy : y.oneCell' = true) : ∀ u ∈ [x, y], u.oneCell' = true := by
  intro u hu; simp at hu; rcases hu with rfl | rfl <;> assumption
theorem cell_two (w : World) (c : Array Value) (t : TypeId) (o : Obj) (i : Nat) : ((w.alloc (.cells c t)).alloc o).cell? ⟨w.heap.size, i, none⟩ = c[i]? := by
  rw [World.cell?_alloc_lt _ _ _ (by simp)]; exact World.cell?_alloc_at _ _ _ _ rfl
theorem bel_grown {w X Y : World} {row : Option Nat} (h : Bel w X) (hg : X.grownBy Y row) (hr : ∀ q, row = some q → w.heap.size ≤ q) : Bel w Y := h.grown hg h.size hr

theorem info_a : (Try.prog.info? 41).map (fun i => (i.zero, i.size, i.bytes)) = some (some (.agg #[.string ByteArray.empty, .int .u64 0, .int .u64 0]), 3, 32) := by kernel_rfl
theorem info_b : (Try.prog.info? 67).map (fun i => (i.zero, i.size, i.bytes)) = some (some (.agg #[.string ByteArray.empty, .int .u64 0, .int .u64 0]), 3, 32) := by kernel_rfl
theorem info_e : (Try.prog.info? 39).map (fun i => (i.zero, i.size, i.bytes)) = some (some (.agg #[.string ByteArray.empty, .int .u64 0]), 2, 24) := by kernel_rfl

set_option maxRecDepth 100000 in
set_option maxHeartbeats 2000000 in
theorem vars_any (vs : List V) (v : Value) (w : World) (hv : Sl w v vs.length 4 (vcell vs)) :
    Calls Try.prog 7 #[v] w fun e w' => ∃ va vb vc, e = .returned (.tuple #[va, vb, vc]) ∧ Bel w w' ∧
      w'.ownsRow w.heap.size 41 3 va (min vs.length 20) (acells (vs.take (min vs.length 20))) ∧ w'.ownsRow w.heap.size 39 2 vc (min vs.length 20) (ecells (vs.take (min vs.length 20))) := by
  obtain ⟨ia, hia, hza0, hza1, hza2⟩ := info_parts info_a
  obtain ⟨ib, hib, hzb0, hzb1, hzb2⟩ := info_parts info_b
  obtain ⟨ie, hie, hze0, hze1, hze2⟩ := info_parts info_e
  obtain ⟨a, cap, rfl, hcap, hmax, hcells, hnil⟩ := hv
  have HLEN : Hid (∀ k, k < vs.length → ∃ x, vs[k]? = some x) := Lib.hid fun k hk => ⟨_, List.getElem?_eq_getElem hk⟩
  generalize hn : vs.length = n at *
  have e1 : min (n : Int) 20 = ((min n 20 : Nat) : Int) := by omega
  generalize hm : min n 20 = m at *
  have HC := Lib.hid hcells
  have hmn : m ≤ n := by omega
  have hm20 : m ≤ 20 := by omega
  clear hm hn hcells
  cases a with
  | none =>
    have c0 := hnil rfl
    subst c0
    have m0 : m = 0 := by omega
    have n0 : n = 0 := by omega
    subst m0 n0
    go_enter Try.func7, Try.ntmps7
    go_wp2_with fail
    go_loopw [5, 6, 7, 16] (fun s5 s6 s7 i wr => s5 = .slice none 0 0 ∧ s6 = .slice none 0 0 ∧ s7 = .slice none 0 0 ∧ i = .int .i64 0 ∧ w = wr) (fun _ _ _ _ _ => 0)
    case atStart => exact ⟨rfl, rfl, rfl, rfl, rfl⟩
    case round =>
      obtain ⟨rfl, rfl, rfl, rfl, rfl⟩ := hrel
      go_wp2_with fail
      refine bodyPost_ret (v := .tuple #[.slice none 0 0, .slice none 0 0, .slice none 0 0]) (by simp [results, Try.results7, go_sem]) rfl ?_
      exact ⟨_, _, _, rfl, Bel.refl _, World.ownsRow_nil _ _ _ _, World.ownsRow_nil _ _ _ _⟩
  | some a =>
    go_enter Try.func7, Try.ntmps7
    go_wp2_with fail
    go_loopw [5, 6, 7, 16] (fun s5 s6 s7 i wr => ∃ k : Nat, k ≤ m ∧ i = .int .i64 k ∧ wr.ownsRow w.heap.size 41 3 s5 k (acells (vs.take k)) ∧ wr.ownsRow w.heap.size 67 3 s6 k (acells (vs.take k)) ∧ wr.ownsRow w.heap.size 39 2 s7 k (ecells (vs.take k)) ∧ Bel w wr) (fun _ _ _ i _ => m - (intOf i).toNat)
    case atStart => exact ⟨0, by omega, rfl, World.ownsRow_nil _ _ _ _, World.ownsRow_nil _ _ _ _, World.ownsRow_nil _ _ _ _, Bel.refl _⟩
    case round =>
      obtain ⟨k, hk, rfl, o5, o6, o7, hbq⟩ := hrel
      have HB := Lib.hid hbq
      have hzw := hbq.size
      by_cases hl : k < m
      · obtain ⟨b, o, hab, hcl⟩ := HC.out (by omega)
        cases hab
        obtain ⟨x, hx⟩ := HLEN.out k (by omega)
        obtain ⟨x0, x1, x2, x3⟩ := vcell_at hx
        have c0 := (Below.cell hbq (p := ⟨b, o + k * 4 + 0, none⟩) (World.block_lt_of_cell? w _ (hcl k 0 (by omega) (by omega)))).trans (hcl k 0 (by omega) (by omega))
        have c1 := (Below.cell hbq (p := ⟨b, o + k * 4 + 1, none⟩) (World.block_lt_of_cell? w _ (hcl k 1 (by omega) (by omega)))).trans (hcl k 1 (by omega) (by omega))
        have c2 := (Below.cell hbq (p := ⟨b, o + k * 4 + 2, none⟩) (World.block_lt_of_cell? w _ (hcl k 2 (by omega) (by omega)))).trans (hcl k 2 (by omega) (by omega))
        have c3 := (Below.cell hbq (p := ⟨b, o + k * 4 + 3, none⟩) (World.block_lt_of_cell? w _ (hcl k 3 (by omega) (by omega)))).trans (hcl k 3 (by omega) (by omega))
        rw [x0] at c0; rw [x1] at c1; rw [x2] at c2; rw [x3] at c3
        rw [Nat.add_zero] at c0
        have A5 := Lib.hid (acells_succ hx)
        have A7 := Lib.hid (ecells_succ hx)
        obtain ⟨nm, lo, hi, nn⟩ := x
        have O5 := Lib.hid o5
        have O6 := Lib.hid o6
        have O7 := Lib.hid o7
        clear o5 o6 o7 hbq hcl hx x0 x1 x2 x3
        go_wp2_with (at_builtin; refine wpList_append_own _ rfl _ _ 28 rfl w.heap.size 41 ia (.agg #[.string ByteArray.empty, .int .u64 0, .int .u64 0]) 3 32 Try.underlying28 hia hza0 hza1 hza2 rfl (by decide) _ _ _ rfl ((O5.out.alloc _).alloc _) ⟨wr.heap.size + 1, 0, none⟩ 1 1 [.string nm, .int .u64 lo, .int .u64 hi] rfl rfl (lit3 (by simp)) (one3 rfl rfl rfl) (by unfold maxLen; omega) (by omega) (by simp; omega) ?_)
        intro v5 w1 hv5 hg5 _
        have d0 : w1.cell? ⟨wr.heap.size, 0, none⟩ = some (.string nm) := hg5.cell (a := ⟨wr.heap.size, 0, none⟩) (cell_two _ _ _ _ 0) (own_not O5.out (Nat.le_refl _))
        have d1 : w1.cell? ⟨wr.heap.size, 1, none⟩ = some (.int .u64 lo) := hg5.cell (a := ⟨wr.heap.size, 1, none⟩) (cell_two _ _ _ _ 1) (own_not O5.out (Nat.le_refl _))
        have d2 : w1.cell? ⟨wr.heap.size, 2, none⟩ = some (.int .u64 hi) := hg5.cell (a := ⟨wr.heap.size, 2, none⟩) (cell_two _ _ _ _ 2) (own_not O5.out (Nat.le_refl _))
        have d3 : w1.cell? ⟨wr.heap.size, 3, none⟩ = some (.int .u64 nn) := hg5.cell (a := ⟨wr.heap.size, 3, none⟩) (cell_two _ _ _ _ 3) (own_not O5.out (Nat.le_refl _))
        have z1 : wr.heap.size + 2 ≤ w1.heap.size := by have := hg5.size; simp at this; omega
        have P6 := Lib.hid (((O6.out.alloc _).alloc _).kept hg5 (own_ne O6.out O5.out (by decide)))
        have P7 := Lib.hid (((O7.out.alloc _).alloc _).kept hg5 (own_ne O7.out O5.out (by decide)))
        have B1 := Lib.hid (bel_grown ((HB.out.new _).new _) hg5 (fun q hq => (O5.out.lt q hq).1))
        have P5 : Hid (w1.ownsRow w.heap.size 41 3 v5 (k + 1) (acells (vs.take (k + 1)))) := Lib.hid (by rw [A5.out]; exact hv5)
        clear hv5 hg5 c0 c1 c2 c3
        go_wp2_with (at_builtin; refine wpList_append_own _ rfl _ _ 29 rfl w.heap.size 67 ib (.agg #[.string ByteArray.empty, .int .u64 0, .int .u64 0]) 3 32 Try.underlying29 hib hzb0 hzb1 hzb2 rfl (by decide) _ _ _ rfl (P6.out.alloc _) ⟨w1.heap.size, 0, none⟩ 1 1 [.string nm, .int .u64 lo, .int .u64 hi] rfl rfl (lit3 rfl) (one3 rfl rfl rfl) (by unfold maxLen; omega) (by omega) (by simp; omega) ?_)
        intro v6 w2 hv6 hg6 _
        have f0 : w2.cell? ⟨wr.heap.size, 0, none⟩ = some (.string nm) := hg6.cell (a := ⟨wr.heap.size, 0, none⟩) (by rw [World.cell?_alloc_lt _ _ _ (by show wr.heap.size < w1.heap.size; omega)]; exact d0) (own_not O6.out (Nat.le_refl _))
        have f1 : w2.cell? ⟨wr.heap.size, 1, none⟩ = some (.int .u64 lo) := hg6.cell (a := ⟨wr.heap.size, 1, none⟩) (by rw [World.cell?_alloc_lt _ _ _ (by show wr.heap.size < w1.heap.size; omega)]; exact d1) (own_not O6.out (Nat.le_refl _))
        have f2 : w2.cell? ⟨wr.heap.size, 2, none⟩ = some (.int .u64 hi) := hg6.cell (a := ⟨wr.heap.size, 2, none⟩) (by rw [World.cell?_alloc_lt _ _ _ (by show wr.heap.size < w1.heap.size; omega)]; exact d2) (own_not O6.out (Nat.le_refl _))
        have f3 : w2.cell? ⟨wr.heap.size, 3, none⟩ = some (.int .u64 nn) := hg6.cell (a := ⟨wr.heap.size, 3, none⟩) (by rw [World.cell?_alloc_lt _ _ _ (by show wr.heap.size < w1.heap.size; omega)]; exact d3) (own_not O6.out (Nat.le_refl _))
        have z2 : wr.heap.size + 2 ≤ w2.heap.size := by have := hg6.size; simp at this; omega
        have R7 := Lib.hid ((P7.out.alloc _).kept hg6 (own_ne P7.out P6.out (by decide)))
        have R5 := Lib.hid ((P5.out.alloc _).kept hg6 (own_ne P5.out P6.out (by decide)))
        have B2 := Lib.hid (bel_grown (B1.out.new _) hg6 (fun q hq => (O6.out.lt q hq).1))
        have R6 : Hid (w2.ownsRow w.heap.size 67 3 v6 (k + 1) (acells (vs.take (k + 1)))) := Lib.hid (by rw [A5.out]; exact hv6)
        clear hv6 hg6 d0 d1 d2 d3
        go_wp2_with (at_builtin; refine wpList_append_own _ rfl _ _ 31 rfl w.heap.size 39 ie (.agg #[.string ByteArray.empty, .int .u64 0]) 2 24 Try.underlying31 hie hze0 hze1 hze2 rfl (by decide) _ _ _ rfl (R7.out.alloc _) ⟨w2.heap.size, 0, none⟩ 1 1 [.string nm, .int .u64 (max lo (min nn hi))] rfl rfl (lit2 rfl) (one2 rfl rfl) (by unfold maxLen; omega) (by omega) (by simp; omega) ?_)
        intro v7 w3 hv7 hg7 _
        have z3 : w2.heap.size ≤ w3.heap.size := by have := hg7.size; simp at this; omega
        have S5 := Lib.hid ((R5.out.alloc _).kept hg7 (own_ne R5.out R7.out (by decide)))
        have S6 := Lib.hid ((R6.out.alloc _).kept hg7 (own_ne R6.out R7.out (by decide)))
        have B3 := Lib.hid (bel_grown (B2.out.new _) hg7 (fun q hq => (O7.out.lt q hq).1))
        have S7 : Hid (w3.ownsRow w.heap.size 39 2 v7 (k + 1) (ecells (vs.take (k + 1)))) := Lib.hid (by rw [A7.out]; exact hv7)
        clear hv7 hg7 f0 f1 f2 f3
        go_wp2_with fail
        go_roundw
        case rel => exact ⟨k + 1, by omega, by go_num, S5.out, S6.out, S7.out, B3.out⟩
        case measure => simp [intOf]; omega
      · have e9 : k = m := by omega
        subst e9
        have O5 := Lib.hid o5
        have O7 := Lib.hid o7
        clear o5 o6 o7 hbq
        go_wp2_with fail
        refine bodyPost_ret (v := .tuple #[u5, u6, u7]) (by simp [results, Try.results7, go_sem]) rfl ?_
        exact ⟨_, _, _, rfl, HB.out, O5.out, O7.out⟩
end Go.Proofs.Ytadigpaglappbaa.VarsW
