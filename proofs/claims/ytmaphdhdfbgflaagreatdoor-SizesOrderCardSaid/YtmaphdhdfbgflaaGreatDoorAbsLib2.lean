/- Functions that are given by hand: names in a row, a strings.Builder. -/
import Derived.Test.YtmaphdhdfbgflaaGreatDoorAbsLib
set_option linter.unusedVariables false
namespace Go.Abs
open Go.RowKit
section
variable {P : Program} {top : Nat} {glob : Nat → Option (List D)} {g : G} {h h' : H} {w w' : World}

/-- What is found last: from the front. -/
def scan2 (nm : List Nat) : Int × Bool → List D → Option (Int × Bool)
  | acc, [] => some acc
  | acc, .str s :: .int .u64 z :: r => scan2 nm (bif beqL s nm then (z, true) else acc) r
  | _, _ => none
def scan3le (a b : Int) : Bool := decide (a ≤ b)
def scan3 (nm : List Nat) : Int × Int × Bool → List D → Option (Int × Int × Bool)
  | acc, [] => some acc
  | acc, .str s :: .int .u64 z :: .int .u64 y :: r => scan3 nm (bif beqL s nm then (z, y, scan3le z y) else acc) r
  | _, _ => none

/-- The last one of that name, in the first k of them. -/
def last2 (nm : Nat → ByteArray) (z : Nat → Int) (s : ByteArray) : Nat → Int × Bool
  | 0 => (0, false)
  | k + 1 => if nm k = s then (z k, true) else last2 nm z s k
def last3 (nm : Nat → ByteArray) (z y : Nat → Int) (s : ByteArray) : Nat → Int × Int × Bool
  | 0 => (0, 0, false)
  | k + 1 => if nm k = s then (z k, y k, decide (z k ≤ y k)) else last3 nm z y s k

def nmf (vs : List Value) (n j : Nat) : ByteArray :=
  match vs[j * n]? with
  | some (.string s) => s
  | _ => .empty
def zf (vs : List Value) (n i j : Nat) : Int :=
  match vs[j * n + i]? with
  | some (.int _ z) => z
  | _ => 0
theorem scan2_eq (s : ByteArray) {vs : List Value} : ∀ (m k : Nat) (cs : List D) (r : Int × Bool), cs.length = m * 2 → VRels g cs (vs.drop (k * 2)) → scan2 (strD s) (last2 (nmf vs 2) (zf vs 2 1) s k) cs = some r →
    r = last2 (nmf vs 2) (zf vs 2 1) s (k + m) ∧ ∀ j, k ≤ j → j < k + m → vs[j * 2]? = some (.string (nmf vs 2 j)) ∧ vs[j * 2 + 1]? = some (.int .u64 (zf vs 2 1 j))
  | 0, k, cs, r, hl, hv, hs => by
    have : cs = [] := List.eq_nil_of_length_eq_zero (by omega)
    subst this
    simp only [scan2] at hs
    cases hs
    exact ⟨rfl, fun j h1 h2 => by omega⟩
  | m + 1, k, cs, r, hl, hv, hs => by
    unfold scan2 at hs
    split at hs
    · simp at hl
    · rename_i acc x0 d z cs'
      obtain ⟨v0, e0, r0⟩ := hv.some (i := 0) (d := .str d) rfl
      obtain ⟨v1, e1, r1⟩ := hv.some (i := 1) (d := .int .u64 z) rfl
      obtain ⟨s0, rfl, rfl⟩ := r0.str'
      have := r1.int'
      subst this
      rw [List.getElem?_drop] at e0 e1
      have hn : nmf vs 2 k = s0 := by simp only [nmf]; rw [show k * 2 = k * 2 + 0 from rfl, e0]
      have hz : zf vs 2 1 k = z := by simp only [zf]; rw [e1]
      have hv' : VRels g cs' (vs.drop ((k + 1) * 2)) := by
        have := hv.drop 2
        rw [List.drop_drop] at this
        have e : k * 2 + 2 = (k + 1) * 2 := by omega
        rw [e] at this
        simpa using this
      have hacc : (bif beqL (strD s0) (strD s) then (z, true) else last2 (nmf vs 2) (zf vs 2 1) s k) = last2 (nmf vs 2) (zf vs 2 1) s (k + 1) := by
        simp only [last2, hn, hz]
        by_cases e : s0 = s
        · subst e; rw [beqL_eq]; simp
        · have : beqL (strD s0) (strD s) = false := by rw [beqL_eq]; exact decide_eq_false fun hh => e (strD_inj.1 hh)
          rw [this, if_neg e]; rfl
      rw [hacc] at hs
      obtain ⟨h1, h2⟩ := scan2_eq s m (k + 1) cs' r (by simp at hl; omega) hv' hs
      refine ⟨by rw [h1]; congr 1; omega, fun j hj1 hj2 => ?_⟩
      by_cases e : j = k
      · subst e; rw [hn, hz]; exact ⟨by rw [show j * 2 = j * 2 + 0 from rfl, e0], e1⟩
      · exact h2 j (by omega) (by omega)
    · cases hs
theorem scan3_eq (s : ByteArray) {vs : List Value} : ∀ (m k : Nat) (cs : List D) (r : Int × Int × Bool), cs.length = m * 3 → VRels g cs (vs.drop (k * 3)) → scan3 (strD s) (last3 (nmf vs 3) (zf vs 3 1) (zf vs 3 2) s k) cs = some r →
    r = last3 (nmf vs 3) (zf vs 3 1) (zf vs 3 2) s (k + m) ∧ ∀ j, k ≤ j → j < k + m → vs[j * 3]? = some (.string (nmf vs 3 j)) ∧ vs[j * 3 + 1]? = some (.int .u64 (zf vs 3 1 j)) ∧ vs[j * 3 + 2]? = some (.int .u64 (zf vs 3 2 j))
  | 0, k, cs, r, hl, hv, hs => by
    have : cs = [] := List.eq_nil_of_length_eq_zero (by omega)
    subst this
    simp only [scan3] at hs
    cases hs
    exact ⟨rfl, fun j h1 h2 => by omega⟩
  | m + 1, k, cs, r, hl, hv, hs => by
    unfold scan3 at hs
    split at hs
    · simp at hl
    · rename_i acc x0 d z y cs'
      obtain ⟨v0, e0, r0⟩ := hv.some (i := 0) (d := .str d) rfl
      obtain ⟨v1, e1, r1⟩ := hv.some (i := 1) (d := .int .u64 z) rfl
      obtain ⟨v2, e2, r2⟩ := hv.some (i := 2) (d := .int .u64 y) rfl
      obtain ⟨s0, rfl, rfl⟩ := r0.str'
      have := r1.int'
      subst this
      have := r2.int'
      subst this
      rw [List.getElem?_drop] at e0 e1 e2
      have hn : nmf vs 3 k = s0 := by simp only [nmf]; rw [show k * 3 = k * 3 + 0 from rfl, e0]
      have hz : zf vs 3 1 k = z := by simp only [zf]; rw [e1]
      have hy : zf vs 3 2 k = y := by simp only [zf]; rw [e2]
      have hv' : VRels g cs' (vs.drop ((k + 1) * 3)) := by
        have := hv.drop 3
        rw [List.drop_drop] at this
        have e : k * 3 + 3 = (k + 1) * 3 := by omega
        rw [e] at this
        simpa using this
      have hacc : (bif beqL (strD s0) (strD s) then (z, y, scan3le z y) else last3 (nmf vs 3) (zf vs 3 1) (zf vs 3 2) s k) = last3 (nmf vs 3) (zf vs 3 1) (zf vs 3 2) s (k + 1) := by
        simp only [last3, hn, hz, hy]
        by_cases e : s0 = s
        · subst e; rw [beqL_eq]; simp [scan3le]
        · have : beqL (strD s0) (strD s) = false := by rw [beqL_eq]; exact decide_eq_false fun hh => e (strD_inj.1 hh)
          rw [this, if_neg e]; rfl
      rw [hacc] at hs
      obtain ⟨h1, h2⟩ := scan3_eq s m (k + 1) cs' r (by simp at hl; omega) hv' hs
      refine ⟨by rw [h1]; congr 1; omega, fun j hj1 hj2 => ?_⟩
      by_cases e : j = k
      · subst e; rw [hn, hz, hy]; exact ⟨by rw [show j * 3 = j * 3 + 0 from rfl, e0], e1, e2⟩
      · exact h2 j (by omega) (by omega)
    · cases hs

/-- (expr.Env).Get -/
def libGet (ds : List D) (h : H) : O D :=
  match ds with
  | [e, .str nm] => match sliceCells h 2 e with
    | some (n, cs) => bif Nat.ble n 1000000 && Nat.beq cs.length (n * 2) then (match scan2 nm (0, false) cs with
      | some (z, ok) => .ok (.tup [.int .u64 z, .v (.bool ok)]) h
      | none => .fail "Get") else .fail "Get"
    | none => .fail "Get"
  | _ => .fail "Get"
/-- What a slice of cells holds, for the walk. -/
theorem els_of (hr : R P top g h w) {size n : Nat} {e : D} {cs : List D} (hc : sliceCells h size e = some (n, cs)) (hlen : cs.length = n * size) (hsize : 0 < size) {v : Value} (hv : VRel g e v) :
    ∃ a cap vs, v = .slice a n cap ∧ VRels g cs vs ∧ (n = 0 ∨ ∃ b off, a = some ⟨b, off, none⟩ ∧ b < w.heap.size ∧ ∀ i u, vs[i]? = some u → w.cell? ⟨b, off + i, none⟩ = some u) := by
  rcases sliceCells_sim hr hc hv with ⟨rfl, rfl, rfl⟩ | ⟨ad, cap, vs, rfl, hvs, hl, hcell⟩
  · exact ⟨none, 0, [], rfl, .nil g, .inl rfl⟩
  · refine ⟨some ad, cap, vs, rfl, hvs, ?_⟩
    by_cases hn : n = 0
    · exact .inl hn
    · right
      have hpos : 0 < vs.length := by rw [← hvs.1, hlen]; exact Nat.mul_pos (by omega) hsize
      have h0 := hcell 0 vs[0] (List.getElem?_eq_getElem hpos)
      have hsp : ad.spot = none := by simpa [Addr.add] using World.cell?_spot h0
      obtain ⟨b, off, sp⟩ := ad
      simp only at hsp
      subst hsp
      refine ⟨b, off, rfl, ?_, fun i u hu => ?_⟩
      · rw [add_plain] at h0
        have := World.block_lt_of_cell? w _ h0
        simpa using this
      · have := hcell i u hu
        rwa [add_plain] at this
theorem libGet_sim {f : Nat} (hent : ∀ args w, (callFunc f args).run P w = .ok (.enter f args) w)
    (hc : ∀ (a : Option Addr) (len cap : Nat) (nm : Nat → ByteArray) (z : Nat → Int) (s : ByteArray) (w : World), len ≤ 1000000 →
      (len = 0 ∨ ∃ b off, a = some ⟨b, off, none⟩ ∧ b < w.heap.size ∧ ∀ j, j < len → w.cell? ⟨b, off + j * 2, none⟩ = some (.string (nm j)) ∧ w.cell? ⟨b, off + j * 2 + 1, none⟩ = some (.int .u64 (z j))) →
      Calls P f #[.slice a len cap, .string s] w fun e w' => e = .returned (.tuple #[.int .u64 (last2 nm z s len).1, .bool (last2 nm z s len).2]) ∧ Below w.heap.size w w') : LibSim P f libGet glob := by
  refine libsim_below fun ds h p d h' hrun => ?_
  unfold libGet at hrun
  split at hrun
  · rename_i e nm
    split at hrun
    · rename_i n cs hcs
      cases hq : Nat.ble n 1000000 && Nat.beq cs.length (n * 2) with
      | false => rw [hq] at hrun; cases p <;> cases hrun
      | true =>
        rw [hq] at hrun
        simp only [cond_true] at hrun
        simp only [Bool.and_eq_true] at hq
        split at hrun
        · rename_i z ok hsc
          cases p with
          | true => cases hrun
          | false =>
            cases hrun
            refine ⟨rfl, rfl, fun top g w args hr hargs => ⟨hent args w, ?_⟩⟩
            obtain ⟨v1, v2, rfl, h1, h2⟩ := hargs.two'
            obtain ⟨s, rfl, rfl⟩ := h2.str'
            have hlen := Nat.eq_of_beq_eq_true hq.2
            obtain ⟨a, cap, vs, rfl, hvs, hel⟩ := els_of hr hcs hlen (by omega) h1
            obtain ⟨e1, e2⟩ := scan2_eq (g := g) s (vs := vs) n 0 cs (z, ok) hlen (by simpa using hvs) hsc
            rw [Nat.zero_add] at e1 e2
            refine ⟨_, ?_, hc a n cap (nmf vs 2) (zf vs 2 1) s w (Nat.le_of_ble_eq_true hq.1) ?_⟩
            · rw [← e1]
              exact .tup' (.cons (.int _ _) (.cons (.v _) (.nil g)))
            · rcases hel with h0 | ⟨b, off, rfl, hb, hcell⟩
              · exact .inl h0
              · exact .inr ⟨b, off, rfl, hb, fun j hj => by
                  have := e2 j (Nat.zero_le _) hj
                  exact ⟨hcell _ _ this.1, by have := hcell _ _ this.2; rwa [← Nat.add_assoc] at this⟩⟩
        · cases p <;> cases hrun
    · cases p <;> cases hrun
  · cases p <;> cases hrun
theorem libGet_grow (ds : List D) (h : H) : Ogrow h (libGet ds h) := by
  refine ogrow_same fun p d h' hr => ?_
  unfold libGet at hr
  split at hr
  · split at hr
    · rename_i n cs hcs
      cases hq : Nat.ble n 1000000 && Nat.beq cs.length (n * 2) with
      | false => rw [hq] at hr; cases p <;> cases hr
      | true =>
        rw [hq] at hr
        simp only [cond_true] at hr
        split at hr <;> cases p <;> cases hr
        rfl
    · cases p <;> cases hr
  · cases p <;> cases hr

/-- (*bounds.run).name -/
def libName (ds : List D) (h : H) : O D :=
  match ds with
  | [.ptr l off, .str nm] => match readCells h (.ptr l (off + 1)) 1 with
    | some [e] => match sliceCells h 3 e with
      | some (n, cs) => bif Nat.ble n 1000000 && Nat.beq cs.length (n * 3) then (match scan3 nm (0, 0, false) cs with
        | some (z, y, ok) => .ok (.agg [.int .u64 z, .int .u64 y, .v (.bool ok)]) h
        | none => .fail "name") else .fail "name"
      | none => .fail "name"
    | _ => .fail "name"
  | _ => .fail "name"
theorem libName_sim {f : Nat} (hent : ∀ args w, (callFunc f args).run P w = .ok (.enter f args) w)
    (hc : ∀ (rb ro : Nat) (a : Option Addr) (len cap : Nat) (nm : Nat → ByteArray) (z y : Nat → Int) (s : ByteArray) (w : World), len ≤ 1000000 → w.cell? ⟨rb, ro + 1, none⟩ = some (.slice a len cap) →
      (len = 0 ∨ ∃ b off, a = some ⟨b, off, none⟩ ∧ b < w.heap.size ∧ ∀ j, j < len → w.cell? ⟨b, off + j * 3, none⟩ = some (.string (nm j)) ∧ w.cell? ⟨b, off + j * 3 + 1, none⟩ = some (.int .u64 (z j)) ∧ w.cell? ⟨b, off + j * 3 + 2, none⟩ = some (.int .u64 (y j))) →
      Calls P f #[.pointer (some ⟨rb, ro, none⟩), .string s] w fun e w' => e = .returned (.agg #[.int .u64 (last3 nm z y s len).1, .int .u64 (last3 nm z y s len).2.1, .bool (last3 nm z y s len).2.2]) ∧ Below w.heap.size w w') : LibSim P f libName glob := by
  refine libsim_below fun ds h p d h' hrun => ?_
  unfold libName at hrun
  split at hrun
  · rename_i l off nm
    split at hrun
    · rename_i e hrd
      split at hrun
      · rename_i n cs hcs
        cases hq : Nat.ble n 1000000 && Nat.beq cs.length (n * 3) with
        | false => rw [hq] at hrun; cases p <;> cases hrun
        | true =>
          rw [hq] at hrun
          simp only [cond_true] at hrun
          simp only [Bool.and_eq_true] at hq
          split at hrun
          · rename_i z y ok hsc
            cases p with
            | true => cases hrun
            | false =>
              cases hrun
              refine ⟨rfl, rfl, fun top g w args hr hargs => ⟨hent args w, ?_⟩⟩
              obtain ⟨v1, v2, rfl, h1, h2⟩ := hargs.two'
              obtain ⟨s, rfl, rfl⟩ := h2.str'
              cases h1 with
              | ptr hbl =>
                rename_i b
                obtain ⟨b', o', us, hp, hus, hul, hucell⟩ := readCells_sim hr hrd (.ptr (off := off + 1) hbl)
                cases hp
                obtain ⟨u, hu0, hur⟩ := hus.some (i := 0) rfl
                have hlen := Nat.eq_of_beq_eq_true hq.2
                obtain ⟨a, cap, vs, rfl, hvs, hel⟩ := els_of hr hcs hlen (by omega) hur
                obtain ⟨e1, e2⟩ := scan3_eq (g := g) s (vs := vs) n 0 cs (z, y, ok) hlen (by simpa using hvs) hsc
                rw [Nat.zero_add] at e1 e2
                refine ⟨_, ?_, hc b off a n cap (nmf vs 3) (zf vs 3 1) (zf vs 3 2) s w (Nat.le_of_ble_eq_true hq.1) (hucell 0 _ hu0) ?_⟩
                · rw [← e1]
                  exact .agg' (.cons (.int _ _) (.cons (.int _ _) (.cons (.v _) (.nil g))))
                · rcases hel with h0 | ⟨b, off, rfl, hb, hcell⟩
                  · exact .inl h0
                  · exact .inr ⟨b, off, rfl, hb, fun j hj => by
                      have := e2 j (Nat.zero_le _) hj
                      exact ⟨hcell _ _ this.1, by have := hcell _ _ this.2.1; rwa [← Nat.add_assoc] at this, by have := hcell _ _ this.2.2; rwa [← Nat.add_assoc] at this⟩⟩
          · cases p <;> cases hrun
      · cases p <;> cases hrun
    · cases p <;> cases hrun
  · cases p <;> cases hrun
theorem libName_grow (ds : List D) (h : H) : Ogrow h (libName ds h) := by
  refine ogrow_same fun p d h' hr => ?_
  unfold libName at hr
  split at hr
  · split at hr
    · split at hr
      · rename_i n cs hcs
        cases hq : Nat.ble n 1000000 && Nat.beq cs.length (n * 3) with
        | false => rw [hq] at hr; cases p <;> cases hr
        | true =>
          rw [hq] at hr
          simp only [cond_true] at hr
          split at hr <;> cases p <;> cases hr
          rfl
      · cases p <;> cases hr
    · cases p <;> cases hr
  · cases p <;> cases hr
end
end Go.Abs
