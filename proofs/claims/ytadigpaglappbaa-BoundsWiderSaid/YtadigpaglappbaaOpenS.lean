/- What came in, opened. -/
import Derived.Test.YtadigpaglappbaaWorldS
import Derived.Test.YtadigpaglappbaaExprN
set_option linter.unusedVariables false
set_option linter.unusedSimpArgs false
namespace Go.Abs.Sy
open Go.Abs.Run hiding op
open Go.Proofs.Ytadigpaglappbaa.Word Go.Proofs.Ytadigpaglappbaa.BoundsN Go.Proofs.Ytadigpaglappbaa.ExprN

open Go.RowKit Go.Deep Go.ChangeShapes Go.WideShapes
section
variable {H : Type} {enc : TypeId × Value → H} {P : Program} {w : World} {base b0 : Nat} {spare : Nat → Bool} {held : Bool} {r : Reach}
theorem wide_slice {t e : TypeId} {v u : Value} (ht : P.underlying t = some (.slice e)) (h : Value.okWide P w r b0 t v) (hu : v.cells.toList = [u]) : v = u := by
  simp only [Value.okWide, ht] at h
  cases v
  case agg cs => exfalso; simp [Cell.okWide, Cell.ok, ht] at h
  all_goals (simp [Value.cells] at hu; exact hu)
theorem add_cell {a : Addr} {k j : Nat} {u : Value} (h : w.cell? ((a.add k).add j) = some u) : w.cell? ⟨a.block, a.off + k + j, none⟩ = some u := by
  rw [add_add] at h
  have hs := World.cell?_spot h
  obtain ⟨b, o, s⟩ := a
  unfold Addr.add at h hs
  by_cases h0 : k + j = 0
  · simp only [h0, if_true] at h hs
    cases hs
    have e1 : k = 0 := by omega
    have e2 : j = 0 := by omega
    subst e1 e2
    exact h
  · simp only [h0, if_false] at h
    rw [Nat.add_assoc]
    exact h
theorem add_cell1 {a : Addr} {j : Nat} {u : Value} (h : w.cell? (a.add j) = some u) : a.spot = none ∨ j ≠ 0 := by
  by_cases h0 : j = 0
  · subst h0; exact .inl (World.cell?_spot h)
  · exact .inr h0
theorem kids_trod {t ti : TypeId} {fuel : Nat} {v : Value} {x : DataW H × List MemPlace} (ht : P.underlying t = some (.slice ti)) (ui : P.underlying ti = some (.int .i64)) (ci : P.cellsOf ti = 1) (h : DataW.trod enc P w base spare held fuel t [v] = some x) : ∃ kids, KidsAt w v kids := by
  rcases open_slice1 ht ci h with ⟨hc, _⟩ | ⟨a, len, cap, m, n, V, D, Pl, hc, hb, hl, hm, hmm, _, hx⟩
  · cases hc; exact ⟨[], .inl ⟨rfl, rfl⟩⟩
  · cases hc
    have hlm : len ≤ m := by rw [hmm]; split <;> omega
    have each : ∀ i, i < len → ∃ c : Int, w.cell? (a.add i) = some (.int .i64 c) := by
      intro i hi
      obtain ⟨h1, h2⟩ := hx i (by omega)
      obtain ⟨c, h3, _⟩ := DataW.trod_int ui h2
      have h4 : V i = .int .i64 c := by simpa using h3
      exact ⟨c, by rw [h1, h4]⟩
    obtain ⟨f, hf⟩ := choose_lt each
    refine ⟨(List.range len).map f, .inr ⟨a, cap, by simp, by simpa using hl, ?_, ?_⟩⟩
    · intro hne
      have : 0 < len := by
        cases len with
        | zero => exact absurd rfl hne
        | succ n => omega
      have := hf 0 this
      exact World.cell?_spot (a := a) this
    · intro i c hi
      have hil : i < len := by have := (List.getElem?_eq_some_iff.1 hi).1; simpa using this
      rw [List.getElem?_map, List.getElem?_range hil] at hi
      cases hi
      have := add_cell (k := 0) (j := i) (hf i hil)
      simpa using this
theorem five {l : List Value} (h : l.length = 5) : ∃ a b c d e, l = [a, b, c, d, e] := by
  match l, h with
  | [a, b, c, d, e], _ => exact ⟨a, b, c, d, e, rfl⟩
theorem four {l : List Value} (h : l.length = 4) : ∃ a b c d, l = [a, b, c, d] := by
  match l, h with
  | [a, b, c, d], _ => exact ⟨a, b, c, d, rfl⟩
theorem U_wf {n : Int} (h : (Lit.int .u64 n).wf = true) : U n := bounds_u64 h
theorem exprs_trod {t e ti : TypeId} {f0 f1 f2 f3 f4 : Field} (ht : P.underlying t = some (.slice e)) (he : P.underlying e = some (.struct #[f0, f1, f2, f3, f4])) (ce : P.cellsOf e = 5)
    (o0 : f0.offset = 0) (o1 : f1.offset = 1) (o2 : f2.offset = 2) (o3 : f3.offset = 3) (o4 : f4.offset = 4) (c0 : P.cellsOf f0.type = 1) (c1 : P.cellsOf f1.type = 1) (c2 : P.cellsOf f2.type = 1) (c3 : P.cellsOf f3.type = 1) (c4 : P.cellsOf f4.type = 1)
    (u0 : P.underlying f0.type = some (.int .i64)) (u1 : P.underlying f1.type = some .string) (u2 : P.underlying f2.type = some (.int .u64)) (u3 : P.underlying f3.type = some .string) (u4 : P.underlying f4.type = some (.slice ti)) (ui : P.underlying ti = some (.int .i64)) (ci : P.cellsOf ti = 1)
    {v : Value} {d : DataW H} {p : List MemPlace} (hv : Value.okWide P w r b0 t v) (h : DataW.Trod enc P w base spare held t v d p) : ∃ es, ExprsAt w v es ∧ (∀ x ∈ es, U x.n) ∧ es.length ≤ maxLen := by
  obtain ⟨fuel, hf⟩ := h
  rcases open_slice ht hf with ⟨hc, _⟩ | ⟨a, len, cap, m, n, D, Pl, hc, hb, hl, hm, hmm, _, hx⟩
  · exact ⟨[], .inl ⟨wide_slice ht hv hc, rfl⟩, fun x hx => by simp at hx, Nat.zero_le _⟩
  have hve := wide_slice ht hv hc
  subst hve
  have hlm : len ≤ m := by rw [hmm]; split <;> omega
  have each : ∀ i, i < len → ∃ x : EX, U x.n ∧ ∃ kv, CellsAt w a (i * 5) [.int .i64 x.kind, .string x.op, .int .u64 x.n, .string x.name, kv] ∧ KidsAt w kv x.kids := by
    intro i hi
    obtain ⟨cs', h1, h2⟩ := hx i (by omega)
    rw [ce] at h1
    obtain ⟨_, hlen, hcell⟩ := World.cells?_some h1
    obtain ⟨k0, k1, k2, k3, k4, rfl⟩ := five hlen
    obtain ⟨xs, n', _, _, _, hxl, hfs⟩ := DataW.trod_struct he h2
    have hxl : xs.length = 5 := hxl
    have g : ∀ j, j < 5 → ∃ z, xs[j]? = some z := fun j hj => ⟨_, List.getElem?_eq_getElem (by omega)⟩
    obtain ⟨z0, e0⟩ := g 0 (by omega)
    obtain ⟨z1, e1⟩ := g 1 (by omega)
    obtain ⟨z2, e2⟩ := g 2 (by omega)
    obtain ⟨z3, e3⟩ := g 3 (by omega)
    obtain ⟨z4, e4⟩ := g 4 (by omega)
    have t0 := hfs 0 f0 rfl
    have t1 := hfs 1 f1 rfl
    have t2 := hfs 2 f2 rfl
    have t3 := hfs 3 f3 rfl
    have t4 := hfs 4 f4 rfl
    rw [o0, c0, e0] at t0
    rw [o1, c1, e1] at t1
    rw [o2, c2, e2] at t2
    rw [o3, c3, e3] at t3
    rw [o4, c4, e4] at t4
    obtain ⟨n0, q0, _⟩ := DataW.trod_int u0 t0
    obtain ⟨s1, q1, _⟩ := DataW.trod_string u1 t1
    obtain ⟨n2, q2, _, w2⟩ := DataW.trod_int u2 t2
    obtain ⟨s3, q3, _⟩ := DataW.trod_string u3 t3
    obtain ⟨kids, hk⟩ := kids_trod u4 ui ci (v := k4) t4
    cases q0
    cases q1
    cases q2
    cases q3
    refine ⟨⟨n0, s1, n2, s3, kids⟩, U_wf w2, k4, ?_, hk⟩
    intro j u hj
    have hj5 : j < 5 := by have := (List.getElem?_eq_some_iff.1 hj).1; simpa using this
    exact add_cell ((hcell j hj5).trans hj)
  have : Inhabited EX := ⟨⟨0, .empty, 0, .empty, []⟩⟩
  obtain ⟨f, hf⟩ := choose_lt each
  refine ⟨(List.range len).map f, .inr ⟨a, cap, by simp, by simpa using hl, ?_, ?_⟩, ?_, by simp; omega⟩
  · intro hne
    have h0 : 0 < len := by
      cases len with
      | zero => exact absurd rfl hne
      | succ n => omega
    obtain ⟨cs', h1, h2⟩ := hx 0 (by omega)
    rw [ce] at h1
    obtain ⟨_, hlen, hcell⟩ := World.cells?_some h1
    obtain ⟨k0, k1, k2, k3, k4, rfl⟩ := five hlen
    have := hcell 0 (by omega)
    rw [Nat.zero_mul] at this
    exact World.cell?_spot (a := a) this
  · intro i x hi
    have hil : i < len := by have := (List.getElem?_eq_some_iff.1 hi).1; simpa using this
    rw [List.getElem?_map, List.getElem?_range hil] at hi
    cases hi
    exact (hf i hil).2
  · intro x hx
    obtain ⟨i, hi, rfl⟩ := List.mem_map.1 hx
    exact (hf i (by simpa using hi)).1
def vrow (v : VV) : List Value := [.string v.name, .int .u64 v.lo, .int .u64 v.hi, .int .u64 v.n]
theorem vars_trod {t e : TypeId} {f0 f1 f2 f3 : Field} (ht : P.underlying t = some (.slice e)) (he : P.underlying e = some (.struct #[f0, f1, f2, f3])) (ce : P.cellsOf e = 4)
    (o0 : f0.offset = 0) (o1 : f1.offset = 1) (o2 : f2.offset = 2) (o3 : f3.offset = 3) (c0 : P.cellsOf f0.type = 1) (c1 : P.cellsOf f1.type = 1) (c2 : P.cellsOf f2.type = 1) (c3 : P.cellsOf f3.type = 1)
    (u0 : P.underlying f0.type = some .string) (u1 : P.underlying f1.type = some (.int .u64)) (u2 : P.underlying f2.type = some (.int .u64)) (u3 : P.underlying f3.type = some (.int .u64))
    {v : Value} {d : DataW H} {p : List MemPlace} (hv : Value.okWide P w r b0 t v) (h : DataW.Trod enc P w base spare held t v d p) : ∃ vs : List VV, RowsAt w v 4 (vs.map vrow) ∧ (∀ x ∈ vs, VU x) ∧ vs.length ≤ maxLen := by
  obtain ⟨fuel, hf⟩ := h
  rcases open_slice ht hf with ⟨hc, _⟩ | ⟨a, len, cap, m, n, D, Pl, hc, hb, hl, hm, hmm, _, hx⟩
  · exact ⟨[], .inl ⟨wide_slice ht hv hc, rfl⟩, fun x hx => by simp at hx, Nat.zero_le _⟩
  have hve := wide_slice ht hv hc
  subst hve
  have hlm : len ≤ m := by rw [hmm]; split <;> omega
  have each : ∀ i, i < len → ∃ x : VV, VU x ∧ CellsAt w a (i * 4) (vrow x) := by
    intro i hi
    obtain ⟨cs', h1, h2⟩ := hx i (by omega)
    rw [ce] at h1
    obtain ⟨_, hlen, hcell⟩ := World.cells?_some h1
    obtain ⟨k0, k1, k2, k3, rfl⟩ := four hlen
    obtain ⟨xs, n', _, _, _, hxl, hfs⟩ := DataW.trod_struct he h2
    have hxl : xs.length = 4 := hxl
    have g : ∀ j, j < 4 → ∃ z, xs[j]? = some z := fun j hj => ⟨_, List.getElem?_eq_getElem (by omega)⟩
    obtain ⟨z0, e0⟩ := g 0 (by omega)
    obtain ⟨z1, e1⟩ := g 1 (by omega)
    obtain ⟨z2, e2⟩ := g 2 (by omega)
    obtain ⟨z3, e3⟩ := g 3 (by omega)
    have t0 := hfs 0 f0 rfl
    have t1 := hfs 1 f1 rfl
    have t2 := hfs 2 f2 rfl
    have t3 := hfs 3 f3 rfl
    rw [o0, c0, e0] at t0
    rw [o1, c1, e1] at t1
    rw [o2, c2, e2] at t2
    rw [o3, c3, e3] at t3
    obtain ⟨s0, q0, _⟩ := DataW.trod_string u0 t0
    obtain ⟨n1, q1, _, w1⟩ := DataW.trod_int u1 t1
    obtain ⟨n2, q2, _, w2⟩ := DataW.trod_int u2 t2
    obtain ⟨n3, q3, _, w3⟩ := DataW.trod_int u3 t3
    cases q0
    cases q1
    cases q2
    cases q3
    refine ⟨⟨s0, n1, n2, n3⟩, ⟨U_wf w1, U_wf w2, U_wf w3⟩, ?_⟩
    intro j u hj
    have hj5 : j < 4 := by have := (List.getElem?_eq_some_iff.1 hj).1; simpa [vrow] using this
    exact add_cell ((hcell j hj5).trans hj)
  have : Inhabited VV := ⟨⟨.empty, 0, 0, 0⟩⟩
  obtain ⟨f, hf⟩ := choose_lt each
  refine ⟨(List.range len).map f, .inr ⟨a, cap, by simp, by simpa using hl, ?_, ?_⟩, ?_, by simp; omega⟩
  · intro hne
    have h0 : 0 < len := by
      cases len with
      | zero => exact absurd rfl hne
      | succ n => omega
    obtain ⟨cs', h1, h2⟩ := hx 0 (by omega)
    rw [ce] at h1
    obtain ⟨_, hlen, hcell⟩ := World.cells?_some h1
    obtain ⟨k0, k1, k2, k3, rfl⟩ := four hlen
    have := hcell 0 (by omega)
    rw [Nat.zero_mul] at this
    exact World.cell?_spot (a := a) this
  · intro i x hi
    have hil : i < len := by have := (List.getElem?_eq_some_iff.1 hi).1; simpa using this
    rw [List.getElem?_map, List.getElem?_map, List.getElem?_range hil] at hi
    cases hi
    exact (hf i hil).2
  · intro x hx
    obtain ⟨i, hi, rfl⟩ := List.mem_map.1 hx
    exact (hf i (by simpa using hi)).1
end
theorem vrow_D {vs : List VV} {d : D} (hd : ((vs.map vrow) = [] ∧ d = .v (.slice none 0 0)) ∨ d = .sl 0 (vs.map vrow).length (rowsD (vs.map vrow))) : VD d vs := by
  rcases hd with ⟨h1, rfl⟩ | rfl
  · exact .inl ⟨by simpa using h1, rfl⟩
  · refine .inr ⟨0, _, by rw [List.length_map], fun i v hv => ?_⟩
    have := rows_drop (size := 4) (rows := vs.map vrow) (fun r hr => by obtain ⟨v, _, rfl⟩ := List.mem_map.1 hr; rfl) i (vrow v) (by rw [List.getElem?_map, hv]; rfl)
    exact this
end Go.Abs.Sy
