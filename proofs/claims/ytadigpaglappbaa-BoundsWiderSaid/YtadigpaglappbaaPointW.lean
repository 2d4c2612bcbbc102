/- The law BoundsPoint, walked. -/
import Derived.Test.YtadigpaglappbaaPointN
import Derived.Test.YtadigpaglappbaaVarsW
import Derived.Test.YtadigpaglappbaaBounds3T
import Derived.Laws.OwnMore
set_option linter.unusedVariables false
namespace Go.Proofs.Ytadigpaglappbaa.PointW
open Go.RowKit Go.Proofs.Ytadigpaglappbaa.Word Go.Proofs.Ytadigpaglappbaa.WordW Go.Proofs.Ytadigpaglappbaa.BoundsN Go.Proofs.Ytadigpaglappbaa.BoundsW Go.Proofs.Ytadigpaglappbaa.Bounds2T Go.Proofs.Ytadigpaglappbaa.Bounds3T Go.Proofs.Ytadigpaglappbaa.Mem Go.Proofs.Ytadigpaglappbaa.RegHead Go.Proofs.Ytadigpaglappbaa.VarsW
open Go.Abs.Sy (EX VU ExprsAt FileAt RowsAt fileN trunc num pt arow erow evalN ofN renvN envN)
abbrev V := Go.Proofs.Ytadigpaglappbaa.VarsW.V
def mixL (vs : List V) (k : Nat) : List V := (vs.map pt).take k ++ vs.drop k
theorem mix_at {vs : List V} {k : Nat} {v : V} (h : vs[k]? = some v) : mixL vs k = (vs.map pt).take k ++ v :: vs.drop (k + 1) ∧ mixL vs (k + 1) = (vs.map pt).take k ++ pt v :: vs.drop (k + 1) := by
  obtain ⟨hk, hv⟩ := List.getElem?_eq_some_iff.1 h
  unfold mixL
  constructor
  · rw [List.drop_eq_getElem_cons hk, hv]
  · rw [List.take_add_one, List.getElem?_map, h, List.append_assoc]
    rfl
theorem mix_zero (vs : List V) : mixL vs 0 = vs := rfl
theorem mix_all (vs : List V) : mixL vs vs.length = vs.map pt := by
  unfold mixL
  rw [List.drop_length, List.append_nil, List.take_of_length_le (by rw [List.length_map]; exact Nat.le_refl _)]
theorem acells_len : ∀ vs : List V, (acells vs).length = vs.length * 3
  | [] => rfl
  | v :: r => by
    have := acells_len r
    simp only [acells, List.flatMap_cons, List.length_append, List.length_cons, List.length_nil] at this ⊢
    omega
theorem acells_app (A B : List V) : acells (A ++ B) = acells A ++ acells B := by unfold acells; rw [List.flatMap_append]
theorem acells_set {vs : List V} {k : Nat} {v : V} (h : vs[k]? = some v) : ((acells (mixL vs k)).set (k * 3 + 1) (.int .u64 (num v))).set (k * 3 + 2) (.int .u64 (num v)) = acells (mixL vs (k + 1)) := by
  obtain ⟨h1, h2⟩ := mix_at h
  have hk : k < vs.length := (List.getElem?_eq_some_iff.1 h).1
  have hl : (acells ((vs.map pt).take k)).length = k * 3 := by rw [acells_len, List.length_take, List.length_map, Nat.min_eq_left (Nat.le_of_lt hk)]
  rw [h1, h2, acells_app, acells_app]
  have e1 : acells (v :: vs.drop (k + 1)) = .string v.name :: .int .u64 v.lo :: .int .u64 v.hi :: acells (vs.drop (k + 1)) := rfl
  have e2 : acells (pt v :: vs.drop (k + 1)) = .string v.name :: .int .u64 (num v) :: .int .u64 (num v) :: acells (vs.drop (k + 1)) := rfl
  rw [e1, e2, List.set_append, if_neg (by omega), List.set_append, if_neg (by omega), hl]
  have e3 : k * 3 + 1 - k * 3 = 1 := by omega
  have e4 : k * 3 + 2 - k * 3 = 2 := by omega
  rw [e3, e4]
  rfl
theorem ecells_at {vs : List V} {k : Nat} {v : V} (h : vs[k]? = some v) : (ecells vs)[k * 2 + 1]? = some (.int .u64 (num v)) := by
  induction vs generalizing k with
  | nil => simp at h
  | cons x r ih =>
    cases k with
    | zero => cases h; rfl
    | succ k =>
      have := ih h
      rw [show (k + 1) * 2 + 1 = k * 2 + 1 + 2 by omega]
      exact this
theorem acells_at {vs : List V} {k : Nat} {v : V} (h : vs[k]? = some v) : (acells vs)[k * 3]? = some (.string v.name) ∧ (acells vs)[k * 3 + 1]? = some (.int .u64 v.lo) ∧ (acells vs)[k * 3 + 2]? = some (.int .u64 v.hi) := by
  induction vs generalizing k with
  | nil => simp at h
  | cons x r ih =>
    cases k with
    | zero => cases h; exact ⟨rfl, rfl, rfl⟩
    | succ k =>
      obtain ⟨a, b, c⟩ := ih h
      refine ⟨?_, ?_, ?_⟩
      · rw [show (k + 1) * 3 = k * 3 + 3 by omega]; exact a
      · rw [show (k + 1) * 3 + 1 = k * 3 + 1 + 3 by omega]; exact b
      · rw [show (k + 1) * 3 + 2 = k * 3 + 2 + 3 by omega]; exact c
theorem ecells_at0 {vs : List V} {k : Nat} {v : V} (h : vs[k]? = some v) : (ecells vs)[k * 2]? = some (.string v.name) := by
  induction vs generalizing k with
  | nil => simp at h
  | cons x r ih =>
    cases k with
    | zero => cases h; rfl
    | succ k => rw [show (k + 1) * 2 = k * 2 + 2 by omega]; exact ih h
/-- A row that the call made, as rows. -/
theorem rows_own {w : World} {B : Nat} {e size : Nat} {v : Value} {xs : List Value} {rows : List (List Value)} (h : w.ownsRow B e size v rows.length xs) (hx : ∀ i r, rows[i]? = some r → r.length = size ∧ ∀ j u, r[j]? = some u → xs[i * size + j]? = some u) : RowsAt w v size rows := by
  have h0 := h
  rcases h.2 with ⟨rfl, h1⟩ | ⟨g, cap, cur, rfl, hB, hg, hnc, hcm, hcs, ht⟩
  · exact .inl ⟨rfl, List.eq_nil_of_length_eq_zero h1⟩
  · refine .inr ⟨_, cap, rfl, hnc, fun _ => rfl, fun i r hi j u hj => ?_⟩
    obtain ⟨hl, hxs⟩ := hx i r hi
    have hil : i < rows.length := (List.getElem?_eq_some_iff.1 hi).1
    have hjl : j < size := by rw [← hl]; exact (List.getElem?_eq_some_iff.1 hj).1
    have hlt : i * size + j < rows.length * size := by
      have : (i + 1) * size ≤ rows.length * size := Nat.mul_le_mul_right _ hil
      rw [Nat.succ_mul] at this
      omega
    have := h0.cellAt (i * size + j) hlt
    rw [hxs j u hj] at this
    simpa using this
theorem own_shape {w : World} {B : Nat} {e size : Nat} {v : Value} {n : Nat} {xs : List Value} (h : w.ownsRow B e size v n xs) : ∃ a cap, v = .slice a n cap ∧ (n ≠ 0 → ∃ g, a = some ⟨g, 0, none⟩ ∧ B ≤ g ∧ g < w.heap.size) := by
  rcases h.2 with ⟨rfl, h1⟩ | ⟨g, cap, cur, rfl, hB, hg, _⟩
  · subst h1; exact ⟨_, _, rfl, fun h => absurd rfl h⟩
  · exact ⟨_, cap, rfl, fun _ => ⟨g, rfl, hB, (Array.getElem?_eq_some_iff.1 hg).1⟩⟩
theorem own_bel {w w' : World} {B : Nat} {e size : Nat} {v : Value} {n : Nat} {xs : List Value} (h : w.ownsRow B e size v n xs) (hb : Bel w w') : w'.ownsRow B e size v n xs := by
  refine ⟨h.1, ?_⟩
  rcases h.2 with h1 | ⟨g, cap, cur, h1, hB, hg, h2, h3, h4, h5⟩
  · exact .inl h1
  · exact .inr ⟨g, cap, cur, h1, hB, (hb.block g (Array.getElem?_eq_some_iff.1 hg).1).trans hg, h2, h3, h4, h5⟩

theorem Sl.below {w w' : World} {v : Value} {n size : Nat} {c : Nat → Nat → Value} (h : Sl w v n size c) (hb : Bel w w') : Sl w' v n size c := by
  obtain ⟨a, cap, h1, h2, h3, h4, h5⟩ := h
  refine ⟨a, cap, h1, h2, h3, fun hn => ?_, h5⟩
  obtain ⟨b, o, h6, h7⟩ := h4 hn
  exact ⟨b, o, h6, fun i j hi hj => Go.Abs.Sy.bel_cell hb (h7 i j hi hj)⟩
theorem Sl_of {w : World} {vv : Value} {vs : List V} (h : RowsAt w vv 4 (vs.map Go.Abs.Sy.vrow)) (hm : vs.length ≤ maxLen) : Sl w vv vs.length 4 (vcell vs) := by
  rcases h with ⟨rfl, h0⟩ | ⟨a, cap, rfl, h1, h2, h3⟩
  · have : vs = [] := List.map_eq_nil_iff.1 h0
    subst this
    exact ⟨none, 0, rfl, Nat.le_refl _, hm, fun h => absurd rfl h, fun _ => rfl⟩
  · rw [List.length_map] at h1 ⊢
    refine ⟨some a, cap, rfl, h1, hm, fun hn => ?_, fun h => by cases h⟩
    have hs := h2 (by intro h; exact hn (by have := List.map_eq_nil_iff.1 h; rw [this]; rfl))
    refine ⟨a.block, a.off, by rw [← hs], fun i j hi hj => ?_⟩
    have hv : vs[i]? = some vs[i] := List.getElem?_eq_getElem hi
    have := h3 i (Go.Abs.Sy.vrow vs[i]) (by rw [List.getElem?_map, hv]; rfl)
    obtain ⟨x0, x1, x2, x3⟩ := vcell_at hv
    match j, hj with
    | 0, _ => rw [x0]; exact this 0 _ rfl
    | 1, _ => rw [x1]; exact this 1 _ rfl
    | 2, _ => rw [x2]; exact this 2 _ rfl
    | 3, _ => rw [x3]; exact this 3 _ rfl
end Go.Proofs.Ytadigpaglappbaa.PointW
