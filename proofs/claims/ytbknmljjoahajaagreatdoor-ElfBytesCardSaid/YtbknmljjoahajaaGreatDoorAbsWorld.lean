/- What lies in a world, as plain data of the reckoner. -/
import Derived.Test.YtbknmljjoahajaaGreatDoorAbsTree
import Derived.Test.YtbknmljjoahajaaGreatDoorAbsSym
import Derived.Deep.Slices
import Derived.ProofKit
import Derived.OpenShut
set_option linter.unusedVariables false
set_option linter.unusedSimpArgs false
namespace Go.Abs
namespace Run
open Go.RowKit
/-! A world's cells as data. -/
def simp1 : Value → Option D
  | .int k n => some (.int k n)
  | .string s => some (.str (strD s))
  | .bool b => some (.v (.bool b))
  | .slice none 0 0 => some (.v (.slice none 0 0))
  | _ => none
theorem simp1_rel {g : G} {x : Value} {d : D} (h : simp1 x = some d) : VRel g d x := by
  unfold simp1 at h
  split at h <;> cases h
  · exact .int _ _
  · exact .str _
  · exact .v _
  · exact .v _
def cell1 (w : World) (b o : Nat) : Option D :=
  match w.cell? ⟨b, o, none⟩ with
  | some x => simp1 x
  | none => none
def row1 (w : World) (b : Nat) : Nat → Nat → Option (List D)
  | _, 0 => some []
  | o, n + 1 => match cell1 w b o, row1 w b (o + 1) n with
    | some d, some r => some (d :: r)
    | _, _ => none
theorem row1_get {w : World} {b : Nat} : ∀ {n o : Nat} {cs : List D}, row1 w b o n = some cs → ∀ i d, cs[i]? = some d → cell1 w b (o + i) = some d
  | 0, o, cs, h, i, d, hi => by cases h; simp at hi
  | n + 1, o, cs, h, i, d, hi => by
    unfold row1 at h
    split at h
    · rename_i d0 r h1 h2
      cases h
      cases i with
      | zero => cases hi; exact h1
      | succ i =>
        have := row1_get h2 i d hi
        rw [Nat.add_assoc, Nat.add_comm 1] at this
        exact this
    · cases h
theorem row1_ints {w : World} {b : Nat} : ∀ {l : List Int} {o : Nat}, (∀ i c, l[i]? = some c → w.cell? ⟨b, o + i, none⟩ = some (.int .i64 c)) → row1 w b o l.length = some (l.map fun c => .int .i64 c)
  | [], o, h => rfl
  | c :: r, o, h => by
    have h0 : cell1 w b o = some (.int .i64 c) := by
      have := h 0 c rfl
      rw [Nat.add_zero] at this
      unfold cell1
      rw [this]
      rfl
    have h1 : row1 w b (o + 1) r.length = _ := row1_ints (fun i c' hi => by
      have := h (i + 1) c' hi
      rw [Nat.add_comm i 1, ← Nat.add_assoc] at this
      exact this)
    show row1 w b o (r.length + 1) = _
    unfold row1
    rw [h0, h1]
    rfl
def sl1 (w : World) : Value → Option D
  | .slice (some a) n cap => bif Nat.ble n cap && (Nat.beq n 0 || a.spot.isNone) then (match row1 w a.block a.off n with
    | some cs => some (.sl 0 n cs)
    | none => none) else none
  | _ => none
def cellD (w : World) (b o : Nat) : Option D :=
  match w.cell? ⟨b, o, none⟩ with
  | some x => match simp1 x with
    | some d => some d
    | none => sl1 w x
  | none => none
theorem cellD_of1 {w : World} {b o : Nat} {d : D} (h : cell1 w b o = some d) : cellD w b o = some d := by
  unfold cell1 at h
  unfold cellD
  split at h
  · rename_i x hx
    simp only [h]
  · cases h
def gW (w : World) (ov : Nat → Nat → Option D) : G := ⟨fun _ => none, fun _ _ => none, fun _ => none, fun b o => match ov b o with
  | some d => some d
  | none => cellD w b o⟩
structure OvOk (w : World) (ov : Nat → Nat → Option D) : Prop where
  cell : ∀ b o d, ov b o = some d → ∃ v, w.cell? ⟨b, o, none⟩ = some v ∧ VRel (gW w ov) d v
  non1 : ∀ b o d, ov b o = some d → cell1 w b o = none
theorem ov_none (w : World) : OvOk w (fun _ _ => none) := ⟨fun b o d h => (by cases h), fun b o d h => (by cases h)⟩
section
variable {w : World} {ov : Nat → Nat → Option D}
theorem imm_of1 (ok : OvOk w ov) {b o : Nat} {d : D} (h : cell1 w b o = some d) : (gW w ov).imm b o = some d := by
  show (match ov b o with
    | some d => some d
    | none => cellD w b o) = some d
  cases ho : ov b o with
  | some d' => rw [ok.non1 b o d' ho] at h; cases h
  | none => exact cellD_of1 h
theorem imm_of {b o : Nat} {d : D} (ho : ov b o = none) (h : cellD w b o = some d) : (gW w ov).imm b o = some d := by
  show (match ov b o with
    | some d => some d
    | none => cellD w b o) = some d
  rw [ho]; exact h
theorem sl1_rel (ok : OvOk w ov) {x : Value} {d : D} (h : sl1 w x = some d) : VRel (gW w ov) d x := by
  unfold sl1 at h
  split at h
  · rename_i a n cap
    cases hq : Nat.ble n cap && (Nat.beq n 0 || a.spot.isNone) with
    | false => rw [hq] at h; cases h
    | true =>
      rw [hq] at h
      simp only [cond_true] at h
      simp only [Bool.and_eq_true, Bool.or_eq_true] at hq
      split at h
      · rename_i cs hcs
        cases h
        refine .sl (Nat.le_of_ble_eq_true hq.1) (fun i d hi => ⟨?_, imm_of1 ok (row1_get hcs i d hi)⟩) (fun e => absurd rfl e)
        rcases hq.2 with h0 | h0
        · have := Nat.eq_of_beq_eq_true h0
          subst this
          cases hcs
          simp at hi
        · cases hs : a.spot with
          | none => rfl
          | some s => rw [hs] at h0; cases h0
      · cases h
  · cases h
theorem cellD_rel (ok : OvOk w ov) {b o : Nat} {d : D} (h : cellD w b o = some d) : ∃ v, w.cell? ⟨b, o, none⟩ = some v ∧ VRel (gW w ov) d v := by
  unfold cellD at h
  split at h
  · rename_i x hx
    refine ⟨x, hx, ?_⟩
    split at h
    · rename_i d' hd
      cases h
      exact simp1_rel hd
    · exact sl1_rel ok h
  · cases h
theorem rW {P : Program} {top : Nat} (ok : OvOk w ov) (ht : 1 ≤ top) : R P top (gW w ov) hTop w where
  obj := fun l o ho => by cases ho
  tip := fun id n e ho => by cases ho
  imm := fun b o d hd => by
    have hd : (match ov b o with
      | some d => some d
      | none => cellD w b o) = some d := hd
    split at hd
    · rename_i d' hov
      cases hd
      exact ok.cell b o _ hov
    · exact cellD_rel ok hd
  blkown := fun l b hb => by cases hb
  slown := fun id n b cap hb => by cases hb
  name := fun l _ _ => ⟨rfl, fun _ => rfl, fun b hb => by cases hb⟩
  dom := fun l _ => rfl
  le := ht
  block := fun _ _ => rfl
  pos := ⟨Nat.zero_lt_one, rfl⟩
  slblk := fun id n p hp => by cases hp
/-- A call that was run by rules, in a world. -/
theorem world_calls {P : Program} {glob : Nat → Option (List D)} {E : Env} {T : Nat → FFn} (ht : Told P glob E) (hT : Tab E T) (hgl : GlobOk (gW w ov) glob) (ok : OvOk w ov) {f : Nat} {ds : List D} {args : Array Value} {Q : D → H → Prop} (hc : WC E T f ds hTop Q)
    (hargs : VRels (gW w ov) ds args.toList) (hb : ∀ args w, (callFunc f args).run P w = .ok (.enter f args) w) :
    Calls P f args w fun e w' => ∃ d h' v g', Q d h' ∧ e = .returned v ∧ R P (h'.next + 1) g' h' w' ∧ VRel g' d v ∧ Below w.heap.size w w' ∧ (gW w ov).Le g' := by
  obtain ⟨d, h', ⟨M, hM⟩, hq⟩ := hc
  have hrun := hM M (Nat.le_refl _)
  have hrun' := (fcall_ok hT M f ds hTop (by rw [hrun]; trivial)).trans hrun
  have hs := call_sim ht M f ds hTop false d h' hrun' (h'.next + 1) (gW w ov) w args (Nat.le_succ _) (rW ok (by omega)) hgl hargs
  rcases hs with ⟨_, hc⟩ | ⟨_, v, w', he, _⟩
  · refine hc.mono ?_
    rintro e w' ⟨v, rfl, g', hext, hr, hv⟩
    exact ⟨d, h', v, g', hq, rfl, hr, hv, ⟨hext.os, hext.tape, hext.output, hext.size, fun k hk => hext.fr k hk (fun l hl => by cases hl)⟩, hext.le⟩
  · rw [hb] at he; cases he
end

/-- The package-level variables, as they lie. -/
def simpD : D → Bool
  | .int _ _ => true
  | .str _ => true
  | _ => false
theorem simp_of {d : D} {v : Value} (hs : simpD d = true) (h : ∀ g, VRel g d v) : simp1 v = some d := by
  have h := h ⟨fun _ => none, fun _ _ => none, fun _ => none, fun _ _ => none⟩
  cases h with
  | int k n => rfl
  | str s => rfl
  | v => cases hs
  | ptr => cases hs
  | ep => cases hs
  | sl => cases hs
  | row => cases hs
  | map => cases hs
  | agg => cases hs
  | tup => cases hs
  | func => cases hs
  | iface => cases hs
theorem glob_W {w : World} {glob : Nat → Option (List D)} (hg : Holds glob w) (hs : ∀ i cs, glob i = some cs → ∀ d ∈ cs, simpD d = true) : GlobOk (gW w fun _ _ => none) glob := fun i cs hc => .ep fun o d hd => by
  obtain ⟨v, h1, h2⟩ := hg i cs o d hc hd
  have h3 := simp_of (hs i cs hc d (List.mem_of_getElem? hd)) h2
  rw [Nat.zero_add]
  refine imm_of rfl (cellD_of1 ?_)
  unfold cell1
  rw [h1]
  exact h3
def CellsAt (w : World) (a : Addr) (o : Nat) (vs : List Value) : Prop := ∀ j u, vs[j]? = some u → w.cell? ⟨a.block, a.off + o + j, none⟩ = some u
def RowsAt (w : World) (v : Value) (size : Nat) (rows : List (List Value)) : Prop := (v = .slice none 0 0 ∧ rows = []) ∨ ∃ a cap, v = .slice (some a) rows.length cap ∧ rows.length ≤ cap ∧ (rows ≠ [] → a.spot = none) ∧ ∀ i r, rows[i]? = some r → CellsAt w a (i * size) r
section
variable {w : World} {ov : Nat → Nat → Option D}
/-- Rows of simple cells. -/
def rowsD (rows : List (List Value)) : List D := rows.flatMap fun r => r.map fun v => (simp1 v).getD undefD
theorem cells_simp {a : Addr} {o : Nat} {r : List Value} (h : CellsAt w a o r) (hs : ∀ v ∈ r, (simp1 v).isSome = true) {j : Nat} {v : Value} (hv : r[j]? = some v) : cell1 w a.block (a.off + o + j) = some ((simp1 v).getD undefD) := by
  unfold cell1
  rw [h j v hv]
  have := hs v (List.mem_of_getElem? hv)
  cases hq : simp1 v with
  | none => rw [hq] at this; cases this
  | some d => exact hq
theorem rows_len {size : Nat} : ∀ {rows : List (List Value)}, (∀ r ∈ rows, r.length = size) → (rowsD rows).length = rows.length * size
  | [], h => by simp [rowsD]
  | r :: l, h => by
    have := rows_len (rows := l) (fun r hr => h r (List.mem_cons_of_mem _ hr))
    have h0 := h r (List.mem_cons_self ..)
    simp only [rowsD, List.flatMap_cons, List.length_append, List.length_map, List.length_cons, h0, Nat.succ_mul] at this ⊢
    omega
theorem rows_get {size : Nat} : ∀ {rows : List (List Value)}, (∀ r ∈ rows, r.length = size) → ∀ i d, (rowsD rows)[i]? = some d → ∃ q j r v, rows[q]? = some r ∧ r[j]? = some v ∧ i = q * size + j ∧ d = (simp1 v).getD undefD
  | [], h, i, d, hi => by simp [rowsD] at hi
  | r :: l, h, i, d, hi => by
    have h0 := h r (List.mem_cons_self ..)
    have e : rowsD (r :: l) = (r.map fun v => (simp1 v).getD undefD) ++ rowsD l := by simp [rowsD]
    rw [e] at hi
    by_cases hr : i < size
    · rw [List.getElem?_append_left (by simpa [h0] using hr), List.getElem?_map] at hi
      cases hv : r[i]? with
      | none => rw [hv] at hi; cases hi
      | some v =>
        rw [hv] at hi
        cases hi
        exact ⟨0, i, r, v, rfl, hv, by omega, rfl⟩
    · rw [List.getElem?_append_right (by simp [h0]; omega), List.length_map, h0] at hi
      obtain ⟨q, j, r', v, h1, h2, h3, h4⟩ := rows_get (rows := l) (fun r hr => h r (List.mem_cons_of_mem _ hr)) _ d hi
      exact ⟨q + 1, j, r', v, h1, h2, by rw [Nat.succ_mul]; omega, h4⟩
theorem rows_D (ok : OvOk w ov) {v : Value} {size : Nat} {rows : List (List Value)} (hx : RowsAt w v size rows) (hsz : ∀ r ∈ rows, r.length = size) (hs : ∀ r ∈ rows, ∀ v ∈ r, (simp1 v).isSome = true) :
    ∃ d, ((rows = [] ∧ d = .v (.slice none 0 0)) ∨ d = .sl 0 rows.length (rowsD rows)) ∧ VRel (gW w ov) d v := by
  rcases hx with ⟨rfl, rfl⟩ | ⟨a, cap, rfl, h1, h2, h3⟩
  · exact ⟨_, .inl ⟨rfl, rfl⟩, .v _⟩
  refine ⟨_, .inr rfl, .sl h1 ?_ (fun e => absurd rfl e)⟩
  intro i d hi
  obtain ⟨q, j, r, u, g1, g2, rfl, rfl⟩ := rows_get hsz i d hi
  have hne : rows ≠ [] := fun e => by subst e; simp at g1
  refine ⟨h2 hne, ?_⟩
  have := cells_simp (h3 q r g1) (hs r (List.mem_of_getElem? g1)) g2
  rw [Nat.add_assoc] at this
  exact imm_of1 ok this
theorem rows_drop {size : Nat} : ∀ {rows : List (List Value)}, (∀ r ∈ rows, r.length = size) → ∀ q r, rows[q]? = some r → ∃ rest, (rowsD rows).drop (q * size) = (r.map fun v => (simp1 v).getD undefD) ++ rest
  | [], h, q, r, hq => by simp at hq
  | x :: l, h, q, r, hq => by
    have h0 := h x (List.mem_cons_self ..)
    have e : rowsD (x :: l) = (x.map fun v => (simp1 v).getD undefD) ++ rowsD l := by simp [rowsD]
    cases q with
    | zero => cases hq; rw [Nat.zero_mul, List.drop_zero, e]; exact ⟨_, rfl⟩
    | succ q =>
      obtain ⟨rest, h1⟩ := rows_drop (rows := l) (fun r hr => h r (List.mem_cons_of_mem _ hr)) q r hq
      refine ⟨rest, ?_⟩
      rw [e, Nat.succ_mul, Nat.add_comm, ← List.drop_drop]
      rw [List.drop_left' (by simp [h0])]
      exact h1
end
open Go.Deep Go.ChangeShapes Go.WideShapes
section
variable {H : Type} {enc : TypeId × Value → H} {P : Program} {w : World} {base b0 : Nat} {spare : Nat → Bool} {held : Bool} {r : Reach}
theorem wide_slice {t e : TypeId} {v u : Value} (ht : P.underlying t = some (.slice e)) (h : Value.okWide P w r b0 t v) (hu : v.cells.toList = [u]) : v = u := by
  simp only [Value.okWide, ht] at h
  cases v
  case agg cs => exfalso; simp [Cell.okWide, Cell.ok, ht] at h
  all_goals (simp [Value.cells] at hu; exact hu)
theorem add_cell {a : Addr} {k j : Nat} {u : Value} (h : w.cell? ((a.add k).add j) = some u) : w.cell? ⟨a.block, a.off + k + j, none⟩ = some u := by
  rw [add_add] at h
  have hs := World.cell?_spot h
  obtain ⟨b, o, s⟩ := a
  unfold Addr.add at h hs
  by_cases h0 : k + j = 0
  · simp only [h0, if_true] at h hs
    cases hs
    have e1 : k = 0 := by omega
    have e2 : j = 0 := by omega
    subst e1 e2
    exact h
  · simp only [h0, if_false] at h
    rw [Nat.add_assoc]
    exact h
theorem add_cell1 {a : Addr} {j : Nat} {u : Value} (h : w.cell? (a.add j) = some u) : a.spot = none ∨ j ≠ 0 := by
  by_cases h0 : j = 0
  · subst h0; exact .inl (World.cell?_spot h)
  · exact .inr h0
theorem two {l : List Value} (h : l.length = 2) : ∃ a b, l = [a, b] := by
  match l, h with
  | [a, b], _ => exact ⟨a, b, rfl⟩
/-- Rows of a number and a text. -/
def row2 (k : IntKind) (p : Int × ByteArray) : List Value := [.int k p.1, .string p.2]
theorem rows2_trod {t e : TypeId} {f0 f1 : Field} {k : IntKind} (ht : P.underlying t = some (.slice e)) (he : P.underlying e = some (.struct #[f0, f1])) (ce : P.cellsOf e = 2)
    (o0 : f0.offset = 0) (o1 : f1.offset = 1) (c0 : P.cellsOf f0.type = 1) (c1 : P.cellsOf f1.type = 1) (u0 : P.underlying f0.type = some (.int k)) (u1 : P.underlying f1.type = some .string)
    {fuel : Nat} {v : Value} {x : DataW H × List MemPlace} (hf : DataW.trod enc P w base spare held fuel t [v] = some x) : ∃ ss : List (Int × ByteArray), RowsAt w v 2 (ss.map (row2 k)) ∧ (∀ p ∈ ss, (Lit.int k p.1).wf = true) ∧ ss.length ≤ maxLen := by
  rcases open_slice ht hf with ⟨hc, _⟩ | ⟨a, len, cap, m, n, D, Pl, hc, hb, hl, hm, hmm, _, hx⟩
  · cases hc; exact ⟨[], .inl ⟨rfl, rfl⟩, fun x hx => by simp at hx, Nat.zero_le _⟩
  cases hc
  have hlm : len ≤ m := by rw [hmm]; split <;> omega
  have each : ∀ i, i < len → ∃ p : Int × ByteArray, (Lit.int k p.1).wf = true ∧ CellsAt w a (i * 2) (row2 k p) := by
    intro i hi
    obtain ⟨cs', h1, h2⟩ := hx i (by omega)
    rw [ce] at h1
    obtain ⟨_, hlen, hcell⟩ := World.cells?_some h1
    obtain ⟨k0, k1, rfl⟩ := two hlen
    obtain ⟨xs, n', _, _, _, hxl, hfs⟩ := DataW.trod_struct he h2
    have hxl : xs.length = 2 := hxl
    have g : ∀ j, j < 2 → ∃ z, xs[j]? = some z := fun j hj => ⟨_, List.getElem?_eq_getElem (by omega)⟩
    obtain ⟨z0, e0⟩ := g 0 (by omega)
    obtain ⟨z1, e1⟩ := g 1 (by omega)
    have t0 := hfs 0 f0 rfl
    have t1 := hfs 1 f1 rfl
    rw [o0, c0, e0] at t0
    rw [o1, c1, e1] at t1
    obtain ⟨n0, q0, _, w0⟩ := DataW.trod_int u0 t0
    obtain ⟨s1, q1, _⟩ := DataW.trod_string u1 t1
    cases q0
    cases q1
    refine ⟨(n0, s1), w0, ?_⟩
    intro j u hj
    have hj2 : j < 2 := by have := (List.getElem?_eq_some_iff.1 hj).1; simpa [row2] using this
    exact add_cell ((hcell j hj2).trans hj)
  have : Inhabited (Int × ByteArray) := ⟨(0, .empty)⟩
  obtain ⟨f, hf⟩ := choose_lt each
  refine ⟨(List.range len).map f, .inr ⟨a, cap, by simp, by simpa using hl, ?_, ?_⟩, ?_, by simp; omega⟩
  · intro hne
    have h0 : 0 < len := by
      cases len with
      | zero => exact absurd rfl hne
      | succ n => omega
    obtain ⟨cs', h1, h2⟩ := hx 0 (by omega)
    rw [ce] at h1
    obtain ⟨_, hlen, hcell⟩ := World.cells?_some h1
    obtain ⟨k0, k1, rfl⟩ := two hlen
    have := hcell 0 (by omega)
    rw [Nat.zero_mul] at this
    exact World.cell?_spot (a := a) this
  · intro i x hi
    have hil : i < len := by have := (List.getElem?_eq_some_iff.1 hi).1; simpa using this
    rw [List.getElem?_map, List.getElem?_map, List.getElem?_range hil] at hi
    cases hi
    exact (hf i hil).2
  · intro x hx
    obtain ⟨i, hi, rfl⟩ := List.mem_map.1 hx
    exact (hf i (by simpa using hi)).1
theorem rows2_Trod {t e : TypeId} {f0 f1 : Field} {k : IntKind} (ht : P.underlying t = some (.slice e)) (he : P.underlying e = some (.struct #[f0, f1])) (ce : P.cellsOf e = 2)
    (o0 : f0.offset = 0) (o1 : f1.offset = 1) (c0 : P.cellsOf f0.type = 1) (c1 : P.cellsOf f1.type = 1) (u0 : P.underlying f0.type = some (.int k)) (u1 : P.underlying f1.type = some .string)
    {v : Value} {d : DataW H} {p : List MemPlace} (hv : Value.okWide P w r b0 t v) (h : DataW.Trod enc P w base spare held t v d p) : ∃ ss : List (Int × ByteArray), RowsAt w v 2 (ss.map (row2 k)) ∧ (∀ p ∈ ss, (Lit.int k p.1).wf = true) ∧ ss.length ≤ maxLen := by
  obtain ⟨fuel, hf⟩ := h
  have e : v.cells.toList = [v] := by
    rcases open_slice ht hf with ⟨hc, _⟩ | ⟨a, len, cap, m, n, D, Pl, hc, _⟩
    · rw [hc, wide_slice ht hv hc]
    · rw [hc, wide_slice ht hv hc]
  rw [e] at hf
  exact rows2_trod ht he ce o0 o1 c0 c1 u0 u1 hf
end
end Run
end Go.Abs
