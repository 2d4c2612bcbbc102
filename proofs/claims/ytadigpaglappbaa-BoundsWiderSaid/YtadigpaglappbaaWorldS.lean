/- What lies in a world, as plain data of the reckoner. -/
import Derived.Test.YtadigpaglappbaaHoldsN
import Derived.Test.YtadigpaglappbaaExprN
import Derived.Deep.Slices
import Derived.ProofKit
import Derived.OpenShut
set_option linter.unusedVariables false
set_option linter.unusedSimpArgs false
namespace Go.Abs.Sy
open Go.Abs.Run hiding op
open Go.Proofs.Ytadigpaglappbaa.Word Go.Proofs.Ytadigpaglappbaa.BoundsN Go.Proofs.Ytadigpaglappbaa.ExprN

open Go.RowKit
/-! A world's cells as data. -/
def simp1 : Value → Option D
  | .int k n => some (.int k n)
  | .string s => some (.str (strD s))
  | .bool b => some (.v (.bool b))
  | .slice none 0 0 => some (.v (.slice none 0 0))
  | _ => none
theorem simp1_rel {g : G} {x : Value} {d : D} (h : simp1 x = some d) : VRel g d x := by
  unfold simp1 at h
  split at h <;> cases h
  · exact .int _ _
  · exact .str _
  · exact .v _
  · exact .v _
def cell1 (w : World) (b o : Nat) : Option D :=
  match w.cell? ⟨b, o, none⟩ with
  | some x => simp1 x
  | none => none
def row1 (w : World) (b : Nat) : Nat → Nat → Option (List D)
  | _, 0 => some []
  | o, n + 1 => match cell1 w b o, row1 w b (o + 1) n with
    | some d, some r => some (d :: r)
    | _, _ => none
theorem row1_get {w : World} {b : Nat} : ∀ {n o : Nat} {cs : List D}, row1 w b o n = some cs → ∀ i d, cs[i]? = some d → cell1 w b (o + i) = some d
  | 0, o, cs, h, i, d, hi => by cases h; simp at hi
  | n + 1, o, cs, h, i, d, hi => by
    unfold row1 at h
    split at h
    · rename_i d0 r h1 h2
      cases h
      cases i with
      | zero => cases hi; exact h1
      | succ i =>
        have := row1_get h2 i d hi
        rw [Nat.add_assoc, Nat.add_comm 1] at this
        exact this
    · cases h
theorem row1_ints {w : World} {b : Nat} : ∀ {l : List Int} {o : Nat}, (∀ i c, l[i]? = some c → w.cell? ⟨b, o + i, none⟩ = some (.int .i64 c)) → row1 w b o l.length = some (l.map fun c => .int .i64 c)
  | [], o, h => rfl
  | c :: r, o, h => by
    have h0 : cell1 w b o = some (.int .i64 c) := by
      have := h 0 c rfl
      rw [Nat.add_zero] at this
      unfold cell1
      rw [this]
      rfl
    have h1 : row1 w b (o + 1) r.length = _ := row1_ints (fun i c' hi => by
      have := h (i + 1) c' hi
      rw [Nat.add_comm i 1, ← Nat.add_assoc] at this
      exact this)
    show row1 w b o (r.length + 1) = _
    unfold row1
    rw [h0, h1]
    rfl
def sl1 (w : World) : Value → Option D
  | .slice (some a) n cap => bif Nat.ble n cap && (Nat.beq n 0 || a.spot.isNone) then (match row1 w a.block a.off n with
    | some cs => some (.sl 0 n cs)
    | none => none) else none
  | _ => none
def cellD (w : World) (b o : Nat) : Option D :=
  match w.cell? ⟨b, o, none⟩ with
  | some x => match simp1 x with
    | some d => some d
    | none => sl1 w x
  | none => none
theorem cellD_of1 {w : World} {b o : Nat} {d : D} (h : cell1 w b o = some d) : cellD w b o = some d := by
  unfold cell1 at h
  unfold cellD
  split at h
  · rename_i x hx
    simp only [h]
  · cases h
def gW (w : World) (ov : Nat → Nat → Option D) : G := ⟨fun _ => none, fun _ _ => none, fun _ => none, fun b o => match ov b o with
  | some d => some d
  | none => cellD w b o⟩
structure OvOk (w : World) (ov : Nat → Nat → Option D) : Prop where
  cell : ∀ b o d, ov b o = some d → ∃ v, w.cell? ⟨b, o, none⟩ = some v ∧ VRel (gW w ov) d v
  non1 : ∀ b o d, ov b o = some d → cell1 w b o = none
theorem ov_none (w : World) : OvOk w (fun _ _ => none) := ⟨fun b o d h => (by cases h), fun b o d h => (by cases h)⟩
section
variable {w : World} {ov : Nat → Nat → Option D}
theorem imm_of1 (ok : OvOk w ov) {b o : Nat} {d : D} (h : cell1 w b o = some d) : (gW w ov).imm b o = some d := by
  show (match ov b o with
    | some d => some d
    | none => cellD w b o) = some d
  cases ho : ov b o with
  | some d' => rw [ok.non1 b o d' ho] at h; cases h
  | none => exact cellD_of1 h
theorem imm_of {b o : Nat} {d : D} (ho : ov b o = none) (h : cellD w b o = some d) : (gW w ov).imm b o = some d := by
  show (match ov b o with
    | some d => some d
    | none => cellD w b o) = some d
  rw [ho]; exact h
theorem sl1_rel (ok : OvOk w ov) {x : Value} {d : D} (h : sl1 w x = some d) : VRel (gW w ov) d x := by
  unfold sl1 at h
  split at h
  · rename_i a n cap
    cases hq : Nat.ble n cap && (Nat.beq n 0 || a.spot.isNone) with
    | false => rw [hq] at h; cases h
    | true =>
      rw [hq] at h
      simp only [cond_true] at h
      simp only [Bool.and_eq_true, Bool.or_eq_true] at hq
      split at h
      · rename_i cs hcs
        cases h
        refine .sl (Nat.le_of_ble_eq_true hq.1) (fun i d hi => ⟨?_, imm_of1 ok (row1_get hcs i d hi)⟩) (fun e => absurd rfl e)
        rcases hq.2 with h0 | h0
        · have := Nat.eq_of_beq_eq_true h0
          subst this
          cases hcs
          simp at hi
        · cases hs : a.spot with
          | none => rfl
          | some s => rw [hs] at h0; cases h0
      · cases h
  · cases h
theorem cellD_rel (ok : OvOk w ov) {b o : Nat} {d : D} (h : cellD w b o = some d) : ∃ v, w.cell? ⟨b, o, none⟩ = some v ∧ VRel (gW w ov) d v := by
  unfold cellD at h
  split at h
  · rename_i x hx
    refine ⟨x, hx, ?_⟩
    split at h
    · rename_i d' hd
      cases h
      exact simp1_rel hd
    · exact sl1_rel ok h
  · cases h
theorem rW {P : Program} {top : Nat} (ok : OvOk w ov) (ht : 1 ≤ top) : R P top (gW w ov) hTop w where
  obj := fun l o ho => by cases ho
  tip := fun id n e ho => by cases ho
  imm := fun b o d hd => by
    have hd : (match ov b o with
      | some d => some d
      | none => cellD w b o) = some d := hd
    split at hd
    · rename_i d' hov
      cases hd
      exact ok.cell b o _ hov
    · exact cellD_rel ok hd
  blkown := fun l b hb => by cases hb
  slown := fun id n b cap hb => by cases hb
  name := fun l _ _ => ⟨rfl, fun _ => rfl, fun b hb => by cases hb⟩
  dom := fun l _ => rfl
  le := ht
  block := fun _ _ => rfl
  pos := ⟨Nat.zero_lt_one, rfl⟩
  slblk := fun id n p hp => by cases hp
/-- A call that was run by rules, in a world. -/
theorem world_calls {P : Program} {glob : Nat → Option (List D)} {E : Env} {T : Nat → FFn} (ht : Told P glob E) (hT : Tab E T) (hgl : ∀ i, glob i = none) (ok : OvOk w ov) {f : Nat} {ds : List D} {args : Array Value} {Q : D → H → Prop} (hc : WC E T f ds hTop Q)
    (hargs : VRels (gW w ov) ds args.toList) (hb : ∀ args w, (callFunc f args).run P w = .ok (.enter f args) w) :
    Calls P f args w fun e w' => ∃ d h' v g', Q d h' ∧ e = .returned v ∧ R P (h'.next + 1) g' h' w' ∧ VRel g' d v ∧ Below w.heap.size w w' ∧ (gW w ov).Le g' := by
  obtain ⟨d, h', ⟨M, hM⟩, hq⟩ := hc
  have hrun := hM M (Nat.le_refl _)
  have hrun' := (fcall_ok hT M f ds hTop (by rw [hrun]; trivial)).trans hrun
  have hs := call_sim ht M f ds hTop false d h' hrun' (h'.next + 1) (gW w ov) w args (Nat.le_succ _) (rW ok (by omega)) (fun i cs hi => by rw [hgl] at hi; cases hi) hargs
  rcases hs with ⟨_, hc⟩ | ⟨_, v, w', he, _⟩
  · refine hc.mono ?_
    rintro e w' ⟨v, rfl, g', hext, hr, hv⟩
    exact ⟨d, h', v, g', hq, rfl, hr, hv, ⟨hext.os, hext.tape, hext.output, hext.size, fun k hk => hext.fr k hk (fun l hl => by cases hl)⟩, hext.le⟩
  · rw [hb] at he; cases he
end

/-! Expressions and names, in a world. -/
def CellsAt (w : World) (a : Addr) (o : Nat) (vs : List Value) : Prop := ∀ j u, vs[j]? = some u → w.cell? ⟨a.block, a.off + o + j, none⟩ = some u
def KidsAt (w : World) (kv : Value) (kids : List Int) : Prop := (kv = .slice none 0 0 ∧ kids = []) ∨ ∃ a cap, kv = .slice (some a) kids.length cap ∧ kids.length ≤ cap ∧ (kids ≠ [] → a.spot = none) ∧ ∀ i c, kids[i]? = some c → w.cell? ⟨a.block, a.off + i, none⟩ = some (.int .i64 c)
def ExprsAt (w : World) (xv : Value) (es : List EX) : Prop := (xv = .slice none 0 0 ∧ es = []) ∨ ∃ a cap, xv = .slice (some a) es.length cap ∧ es.length ≤ cap ∧ (es ≠ [] → a.spot = none) ∧
  ∀ i x, es[i]? = some x → ∃ kv, CellsAt w a (i * 5) [.int .i64 x.kind, .string x.op, .int .u64 x.n, .string x.name, kv] ∧ KidsAt w kv x.kids
def RowsAt (w : World) (v : Value) (size : Nat) (rows : List (List Value)) : Prop := (v = .slice none 0 0 ∧ rows = []) ∨ ∃ a cap, v = .slice (some a) rows.length cap ∧ rows.length ≤ cap ∧ (rows ≠ [] → a.spot = none) ∧ ∀ i r, rows[i]? = some r → CellsAt w a (i * size) r
theorem drop_map {f : Nat → D} {n k : Nat} (h : k < n) : ((List.range n).map f).drop k = f k :: ((List.range n).map f).drop (k + 1) := by
  rw [List.drop_eq_getElem_cons (by simpa using h)]
  simp
section
variable {w : World} {ov : Nat → Nat → Option D}
theorem kids_cell (ok : OvOk w ov) {kv : Value} {kids : List Int} (hk : KidsAt w kv kids) {b o : Nat} (hc : w.cell? ⟨b, o, none⟩ = some kv) : ∃ kd, cellD w b o = some kd ∧ KD kd kids := by
  unfold cellD
  rw [hc]
  rcases hk with ⟨rfl, rfl⟩ | ⟨a, cap, rfl, h1, h2, h3⟩
  · exact ⟨_, rfl, .inl ⟨rfl, rfl⟩⟩
  · refine ⟨.sl 0 kids.length (kids.map fun c => .int .i64 c), ?_, .inr rfl⟩
    have e : (Nat.ble kids.length cap && (Nat.beq kids.length 0 || a.spot.isNone)) = true := by
      rw [ble_of h1, Bool.true_and]
      cases kids with
      | nil => rfl
      | cons c r => rw [h2 (by simp)]; exact Bool.or_true _
    show sl1 w _ = _
    simp only [sl1, e, cond_true, row1_ints h3]
def fdat (w : World) (a : Addr) (i : Nat) : D := match cellD w a.block (a.off + i) with
  | some d => d
  | none => undefD
theorem exprs_D (ok : OvOk w ov) {xv : Value} {es : List EX} (hx : ExprsAt w xv es) (hov : ∀ a n cap, xv = .slice (some a) n cap → ∀ o, ov a.block o = none) : ∃ ld, XD ld es ∧ VRel (gW w ov) ld xv := by
  rcases hx with ⟨rfl, rfl⟩ | ⟨a, cap, rfl, h1, h2, h3⟩
  · exact ⟨_, .inl ⟨rfl, rfl⟩, .v _⟩
  have hov := hov a _ _ rfl
  have hat : ∀ i x, es[i]? = some x → ∃ kd, KD kd x.kids ∧ cellD w a.block (a.off + i * 5) = some (.int .i64 x.kind) ∧ cellD w a.block (a.off + (i * 5 + 1)) = some (.str (strD x.op)) ∧ cellD w a.block (a.off + (i * 5 + 2)) = some (.int .u64 x.n) ∧ cellD w a.block (a.off + (i * 5 + 3)) = some (.str (strD x.name)) ∧ cellD w a.block (a.off + (i * 5 + 4)) = some kd := by
    intro i x hi
    obtain ⟨kv, hc, hk⟩ := h3 i x hi
    obtain ⟨kd, h4, h5⟩ := kids_cell ok hk (hc 4 kv rfl)
    refine ⟨kd, h5, ?_, ?_, ?_, ?_, h4⟩
    · have := hc 0 _ rfl; unfold cellD; rw [Nat.add_zero] at this; rw [this]; rfl
    · have := hc 1 _ rfl; unfold cellD; rw [← Nat.add_assoc, this]; rfl
    · have := hc 2 _ rfl; unfold cellD; rw [← Nat.add_assoc, this]; rfl
    · have := hc 3 _ rfl; unfold cellD; rw [← Nat.add_assoc, this]; rfl
  refine ⟨.sl 0 es.length ((List.range (es.length * 5)).map (fdat w a)), .inr ⟨0, _, rfl, ?_⟩, .sl h1 ?_ (fun e => absurd rfl e)⟩
  · intro i x hi
    obtain ⟨kd, hk, c0, c1, c2, c3, c4⟩ := hat i x hi
    have hil : i < es.length := (List.getElem?_eq_some_iff.1 hi).1
    refine ⟨kd, ((List.range (es.length * 5)).map (fdat w a)).drop (i * 5 + 5), ?_, hk⟩
    rw [drop_map (by omega), drop_map (by omega), drop_map (by omega), drop_map (by omega), drop_map (by omega)]
    simp only [fdat, c0, c1, c2, c3, c4, xc, Nat.add_assoc, Nat.reduceAdd, List.cons_append, List.nil_append]
  · intro i d hi
    have hil : i < es.length * 5 := by have := (List.getElem?_eq_some_iff.1 hi).1; simpa using this
    have hd : fdat w a i = d := by
      rw [List.getElem?_map, List.getElem?_range hil] at hi
      simpa using hi
    have hq : i / 5 < es.length := by omega
    obtain ⟨kd, hk, c0, c1, c2, c3, c4⟩ := hat (i / 5) _ (List.getElem?_eq_getElem hq)
    have hne : es ≠ [] := fun e => by subst e; simp at hq
    refine ⟨h2 hne, imm_of (hov _) ?_⟩
    have hsome : ∃ d, cellD w a.block (a.off + i) = some d := by
      have h5 : i = i / 5 * 5 + i % 5 := by omega
      have h6 : i % 5 = 0 ∨ i % 5 = 1 ∨ i % 5 = 2 ∨ i % 5 = 3 ∨ i % 5 = 4 := by omega
      rcases h6 with h | h | h | h | h <;> (rw [h] at h5; rw [h5]; exact ⟨_, by assumption⟩)
    obtain ⟨d', hd'⟩ := hsome
    rw [← hd]
    unfold fdat
    rw [hd']
/-- Rows of simple cells. -/
def rowsD (rows : List (List Value)) : List D := rows.flatMap fun r => r.map fun v => (simp1 v).getD undefD
theorem cells_simp {a : Addr} {o : Nat} {r : List Value} (h : CellsAt w a o r) (hs : ∀ v ∈ r, (simp1 v).isSome = true) {j : Nat} {v : Value} (hv : r[j]? = some v) : cell1 w a.block (a.off + o + j) = some ((simp1 v).getD undefD) := by
  unfold cell1
  rw [h j v hv]
  have := hs v (List.mem_of_getElem? hv)
  cases hq : simp1 v with
  | none => rw [hq] at this; cases this
  | some d => exact hq
theorem rows_len {size : Nat} : ∀ {rows : List (List Value)}, (∀ r ∈ rows, r.length = size) → (rowsD rows).length = rows.length * size
  | [], h => by simp [rowsD]
  | r :: l, h => by
    have := rows_len (rows := l) (fun r hr => h r (List.mem_cons_of_mem _ hr))
    have h0 := h r (List.mem_cons_self ..)
    simp only [rowsD, List.flatMap_cons, List.length_append, List.length_map, List.length_cons, h0, Nat.succ_mul] at this ⊢
    omega
theorem rows_get {size : Nat} : ∀ {rows : List (List Value)}, (∀ r ∈ rows, r.length = size) → ∀ i d, (rowsD rows)[i]? = some d → ∃ q j r v, rows[q]? = some r ∧ r[j]? = some v ∧ i = q * size + j ∧ d = (simp1 v).getD undefD
  | [], h, i, d, hi => by simp [rowsD] at hi
  | r :: l, h, i, d, hi => by
    have h0 := h r (List.mem_cons_self ..)
    have e : rowsD (r :: l) = (r.map fun v => (simp1 v).getD undefD) ++ rowsD l := by simp [rowsD]
    rw [e] at hi
    by_cases hr : i < size
    · rw [List.getElem?_append_left (by simpa [h0] using hr), List.getElem?_map] at hi
      cases hv : r[i]? with
      | none => rw [hv] at hi; cases hi
      | some v =>
        rw [hv] at hi
        cases hi
        exact ⟨0, i, r, v, rfl, hv, by omega, rfl⟩
    · rw [List.getElem?_append_right (by simp [h0]; omega), List.length_map, h0] at hi
      obtain ⟨q, j, r', v, h1, h2, h3, h4⟩ := rows_get (rows := l) (fun r hr => h r (List.mem_cons_of_mem _ hr)) _ d hi
      exact ⟨q + 1, j, r', v, h1, h2, by rw [Nat.succ_mul]; omega, h4⟩
theorem rows_D (ok : OvOk w ov) {v : Value} {size : Nat} {rows : List (List Value)} (hx : RowsAt w v size rows) (hsz : ∀ r ∈ rows, r.length = size) (hs : ∀ r ∈ rows, ∀ v ∈ r, (simp1 v).isSome = true) :
    ∃ d, ((rows = [] ∧ d = .v (.slice none 0 0)) ∨ d = .sl 0 rows.length (rowsD rows)) ∧ VRel (gW w ov) d v := by
  rcases hx with ⟨rfl, rfl⟩ | ⟨a, cap, rfl, h1, h2, h3⟩
  · exact ⟨_, .inl ⟨rfl, rfl⟩, .v _⟩
  refine ⟨_, .inr rfl, .sl h1 ?_ (fun e => absurd rfl e)⟩
  intro i d hi
  obtain ⟨q, j, r, u, g1, g2, rfl, rfl⟩ := rows_get hsz i d hi
  have hne : rows ≠ [] := fun e => by subst e; simp at g1
  refine ⟨h2 hne, ?_⟩
  have := cells_simp (h3 q r g1) (hs r (List.mem_of_getElem? g1)) g2
  rw [Nat.add_assoc] at this
  exact imm_of1 ok this
theorem rows_drop {size : Nat} : ∀ {rows : List (List Value)}, (∀ r ∈ rows, r.length = size) → ∀ q r, rows[q]? = some r → ∃ rest, (rowsD rows).drop (q * size) = (r.map fun v => (simp1 v).getD undefD) ++ rest
  | [], h, q, r, hq => by simp at hq
  | x :: l, h, q, r, hq => by
    have h0 := h x (List.mem_cons_self ..)
    have e : rowsD (x :: l) = (x.map fun v => (simp1 v).getD undefD) ++ rowsD l := by simp [rowsD]
    cases q with
    | zero => cases hq; rw [Nat.zero_mul, List.drop_zero, e]; exact ⟨_, rfl⟩
    | succ q =>
      obtain ⟨rest, h1⟩ := rows_drop (rows := l) (fun r hr => h r (List.mem_cons_of_mem _ hr)) q r hq
      refine ⟨rest, ?_⟩
      rw [e, Nat.succ_mul, Nat.add_comm, ← List.drop_drop]
      rw [List.drop_left' (by simp [h0])]
      exact h1
end
end Go.Abs.Sy
