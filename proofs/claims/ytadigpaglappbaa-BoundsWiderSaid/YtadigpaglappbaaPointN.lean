/- Of and Eval, in a world; the plain laws of points. -/
import Derived.Test.YtadigpaglappbaaWorldC
set_option linter.unusedVariables false
namespace Go.Abs.Sy
open Go.Abs.Run hiding op
open Go.Proofs.Ytadigpaglappbaa.Word Go.Proofs.Ytadigpaglappbaa.BoundsN Go.Proofs.Ytadigpaglappbaa.ExprN
open Go.RowKit Go.Proofs
open Go.Proofs.Ytadigpaglappbaa.BoundsL
/-- Rows of names with ranges, with numbers. -/
theorem row_of {vs : List VV} {rows : List (List Value)} {d : D} {cs : List D} (hl : rows.length = vs.length) (hr : rowsD rows = cs) (hd : (rows = [] ∧ d = .v (.slice none 0 0)) ∨ d = .sl 0 rows.length (rowsD rows)) (h0 : vs = [] → cs = []) : RowD d vs.length cs := by
  rcases hd with ⟨rfl, rfl⟩ | rfl
  · have : vs = [] := List.eq_nil_of_length_eq_zero hl.symm
    exact .inl ⟨hl.symm, rfl, h0 this⟩
  · rw [hl, hr]
    exact .inr ⟨0, rfl⟩
theorem of_any {w : World} {fv va : Value} {es : List EX} {vs : List VV} (hf : FileAt w fv es) (ha : RowsAt w va 3 (vs.map arow)) (hbig : es.length ≤ 1000) (hl : vs.length ≤ 1000) (hes : ∀ x ∈ es, U x.n) (hvs : ∀ v ∈ vs, U v.lo ∧ U v.hi) (k : Nat) :
    Calls Go.Proofs.Try.prog 9 #[fv, .int .i64 k, va] w fun e w' => e = .returned (.tuple #[.agg #[.int .u64 (ofN es (renvN vs) k).1.lo, .int .u64 (ofN es (renvN vs) k).1.hi], .bool (ofN es (renvN vs) k).2]) ∧ Below w.heap.size w w' := by
  obtain ⟨ov, ld, ok, h1, h2⟩ := file_D hf
  obtain ⟨ad, h3, h4⟩ := rows_D ok ha (fun r hr => by obtain ⟨v, _, rfl⟩ := List.mem_map.1 hr; rfl) (fun r hr u hu => by obtain ⟨v, _, rfl⟩ := List.mem_map.1 hr; exact simp_arow v u hu)
  have hrow : RowD ad vs.length (acD vs) := row_of (by rw [List.length_map]) (rows_ac vs) h3 (fun e => by subst e; rfl)
  have hren : ∀ s r, renvN vs s = some r → UR r := by
    intro s r h
    unfold renvN at h
    cases hq : lastV s none vs with
    | none => rw [hq] at h; cases h
    | some v =>
      rw [hq] at h
      cases h
      rcases lastV_mem hq with h1 | h1
      · cases h1
      · exact hvs v h1
  refine (world_calls told' TT_ok (fun _ => rfl) ok (of_ev (E := env Go.Proofs.Try.prog) ptr24' h1 hbig (vars_row hl hrow) hrow.one hrow.cells hes hren k hTop) (.cons h2 (.cons (.int _ _) (.cons h4 (.nil _)))) (enters_of Go.Proofs.Try.func9 (by kernel_rfl) rfl)).mono ?_
  rintro e w' ⟨d, h', v, g', ⟨rfl, _⟩, rfl, hr, hv, hb, _⟩
  refine ⟨?_, hb⟩
  cases hv with
  | tup hsz hv =>
    rename_i cs
    obtain ⟨u0, u1, rfl, r0, r1⟩ := VRels.two' (args := cs) ⟨by simpa using hsz, fun i d v hd hu => hv i d v hd (by simpa using hu)⟩
    cases r1
    cases r0 with
    | agg hsz2 hv2 =>
      rename_i cs2
      obtain ⟨u2, u3, rfl, r2, r3⟩ := VRels.two' (args := cs2) ⟨by simpa using hsz2, fun i d v hd hu => hv2 i d v hd (by simpa using hu)⟩
      rw [r2.int', r3.int']
theorem eval_any {w : World} {fv va : Value} {es : List EX} {vs : List VV} (hf : FileAt w fv es) (ha : RowsAt w va 2 (vs.map erow)) (hbig : es.length ≤ 1000) (hl : vs.length ≤ 1000) (hes : ∀ x ∈ es, U x.n) (hvs : ∀ v ∈ vs, VU v) (k : Nat) :
    Calls Go.Proofs.Try.prog 10 #[fv, .int .i64 k, va] w fun e w' => e = .returned (.tuple #[.int .u64 (evalN es (envN vs) k).1, .int .i64 (evalN es (envN vs) k).2]) ∧ Below w.heap.size w w' := by
  obtain ⟨ov, ld, ok, h1, h2⟩ := file_D hf
  obtain ⟨ed, h3, h4⟩ := rows_D ok ha (fun r hr => by obtain ⟨v, _, rfl⟩ := List.mem_map.1 hr; rfl) (fun r hr u hu => by obtain ⟨v, _, rfl⟩ := List.mem_map.1 hr; exact simp_erow v u hu)
  have hrow : RowD ed vs.length (ecD vs) := row_of (by rw [List.length_map]) (rows_ec vs) h3 (fun e => by subst e; rfl)
  refine (world_calls told' TT_ok (fun _ => rfl) ok (eval_ev (E := env Go.Proofs.Try.prog) ptr24' h1 hbig (env_row hl hrow) hrow.one hrow.cells hes (env_U hvs) k hTop) (.cons h2 (.cons (.int _ _) (.cons h4 (.nil _)))) (enters_of Go.Proofs.Try.func10 (by kernel_rfl) rfl)).mono ?_
  rintro e w' ⟨d, h', v, g', ⟨rfl, _⟩, rfl, hr, hv, hb, _⟩
  refine ⟨?_, hb⟩
  cases hv with
  | tup hsz hv =>
    rename_i cs
    obtain ⟨u0, u1, rfl, r0, r1⟩ := VRels.two' (args := cs) ⟨by simpa using hsz, fun i d v hd hu => hv i d v hd (by simpa using hu)⟩
    rw [r0.int', r1.int']

/-! Points. -/
def num (v : VV) : Int := max v.lo (min v.n v.hi)
def pt (v : VV) : VV := { v with lo := num v, hi := num v }
theorem last_pt (s : ByteArray) : ∀ (vs : List VV) (a : Option VV), lastV s (a.map pt) (vs.map pt) = (lastV s a vs).map pt
  | [], a => rfl
  | v :: r, a => by
    show lastV s (if (pt v).name = s then some (pt v) else a.map pt) (r.map pt) = (lastV s (if v.name = s then some v else a) r).map pt
    rw [← last_pt s r]
    congr 1
    show (if v.name = s then some (pt v) else a.map pt) = _
    split <;> rfl
theorem env_pt (vs : List VV) : EnvPt (envN vs) (renvN (vs.map pt)) := by
  intro s
  unfold envN renvN
  have := last_pt s vs none
  have e : (none : Option VV).map pt = none := rfl
  rw [e] at this
  rw [this]
  cases lastV s none vs <;> rfl
theorem num_U {v : VV} (h : VU v) : U (num v) := by
  obtain ⟨a, b, c⟩ := h
  have := a.lo; have := a.hi; have := b.lo; have := b.hi; have := c.lo; have := c.hi
  exact ⟨by show 0 ≤ max v.lo (min v.n v.hi); omega, by show max v.lo (min v.n v.hi) ≤ 18446744073709551615; omega⟩
/-- The law of points. -/
theorem point_all {es : List EX} {vs : List VV} (hes : ∀ x ∈ es, U x.n) (hvs : ∀ v ∈ vs, VU v) (k : Nat) :
    ((evalN es (envN vs) k).2 = 0 ∧ ofN es (renvN (vs.map pt)) k = (⟨(evalN es (envN vs) k).1, (evalN es (envN vs) k).1⟩, true)) ∨ ((evalN es (envN vs) k).2 ≠ 0 ∧ (ofN es (renvN (vs.map pt)) k).2 = false) := by
  unfold evalN ofN
  cases hk : good es k with
  | false => exact .inr ⟨(by decide : (2 : Int) ≠ 0), rfl⟩
  | true =>
    simp only [if_true]
    rcases points hes (env_U hvs) (env_pt vs) k hk with ⟨h0, h1⟩ | ⟨h0, h1⟩
    · exact .inl ⟨h0, by rw [h1]; rfl⟩
    · refine .inr ⟨h0, ?_⟩
      rw [if_neg (by rw [h1]; exact Bool.false_ne_true)]
/-- The law of wider ranges: points lie in them. -/
theorem wider_all {es : List EX} {vs : List VV} (hes : ∀ x ∈ es, U x.n) (hvs : ∀ v ∈ vs, VU v) (hg : ∀ v ∈ vs, v.lo ≤ v.hi) (k : Nat) (ht : (ofN es (renvN (vs.map pt)) k).2 = true) :
    (ofN es (renvN vs) k).2 = true ∧ In (ofN es (renvN (vs.map pt)) k).1.lo (ofN es (renvN vs) k).1 ∧ In (ofN es (renvN (vs.map pt)) k).1.hi (ofN es (renvN vs) k).1 := by
  rcases point_all hes hvs k with ⟨h0, h1⟩ | ⟨h0, h1⟩
  · rw [h1]
    have hk : good es k = true := by
      cases hk : good es k with
      | true => rfl
      | false => unfold evalN at h0; rw [hk] at h0; simp at h0
    have h0' : (val es (envN vs) k).2 = 0 := by unfold evalN at h0; rw [hk] at h0; simpa using h0
    obtain ⟨h2, h3⟩ := holds hes (env_in hvs hg) k hk h0'
    have e1 : evalN es (envN vs) k = val es (envN vs) k := by simp [evalN, hk]
    have e2 : ofN es (renvN vs) k = rng es (renvN vs) k := by simp [ofN, hk, h2]
    rw [e1, e2]
    exact ⟨h2, h3, h3⟩
  · rw [h1] at ht; cases ht
end Go.Abs.Sy
