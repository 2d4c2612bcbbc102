/- files, Of and Eval, in a world. -/
import Derived.Test.YtadigpaglappbaaFiles
import Derived.Test.YtadigpaglappbaaHoldsN
import Derived.Test.YtadigpaglappbaaWorldS
import Derived.Test.YtadigpaglappbaaOpenS
import Derived.Test.YtadigpaglappbaaLibS
set_option linter.unusedVariables false
namespace Go.Abs.Sy
open Go.Abs.Run hiding op
open Go.Proofs.Ytadigpaglappbaa.Word Go.Proofs.Ytadigpaglappbaa.BoundsN Go.Proofs.Ytadigpaglappbaa.ExprN
open Go.RowKit Go.Proofs
theorem ptr24' : (env Go.Proofs.Try.prog).P.underlying 24 = some (.pointer 57) := by kernel_rfl
def FileAt (w : World) (fv : Value) (es : List EX) : Prop := ∃ b xv, fv = .pointer (some ⟨b, 0, none⟩) ∧ w.cell? ⟨b, 0, none⟩ = some (.slice none 0 0) ∧ w.cell? ⟨b, 1, none⟩ = some (.slice none 0 0) ∧ w.cell? ⟨b, 2, none⟩ = some xv ∧ ExprsAt w xv es ∧
  ∀ a n cap, xv = .slice (some a) n cap → es ≠ [] → a.block ≠ b
section
variable {w w' : World}
theorem bel_cell (hb : Below w.heap.size w w') {a : Addr} {v : Value} (h : w.cell? a = some v) : w'.cell? a = some v := (hb.cell (World.block_lt_of_cell? w _ h)).trans h
theorem KidsAt.below (hb : Below w.heap.size w w') {kv : Value} {kids : List Int} (h : KidsAt w kv kids) : KidsAt w' kv kids := by
  rcases h with h | ⟨a, cap, h1, h2, h3, h4⟩
  · exact .inl h
  · exact .inr ⟨a, cap, h1, h2, h3, fun i c hi => bel_cell hb (h4 i c hi)⟩
theorem ExprsAt.below (hb : Below w.heap.size w w') {xv : Value} {es : List EX} (h : ExprsAt w xv es) : ExprsAt w' xv es := by
  rcases h with h | ⟨a, cap, h1, h2, h3, h4⟩
  · exact .inl h
  · refine .inr ⟨a, cap, h1, h2, h3, fun i x hi => ?_⟩
    obtain ⟨kv, h5, h6⟩ := h4 i x hi
    exact ⟨kv, fun j u hj => bel_cell hb (h5 j u hj), h6.below hb⟩
theorem FileAt.below (hb : Below w.heap.size w w') {fv : Value} {es : List EX} (h : FileAt w fv es) : FileAt w' fv es := by
  obtain ⟨b, xv, h1, h2, h3, h4, h5, h6⟩ := h
  exact ⟨b, xv, h1, bel_cell hb h2, bel_cell hb h3, bel_cell hb h4, h5.below hb, h6⟩
theorem RowsAt.below (hb : Below w.heap.size w w') {v : Value} {size : Nat} {rows : List (List Value)} (h : RowsAt w v size rows) : RowsAt w' v size rows := by
  rcases h with h | ⟨a, cap, h1, h2, h3, h4⟩
  · exact .inl h
  · exact .inr ⟨a, cap, h1, h2, h3, fun i x hi j u hj => bel_cell hb (h4 i x hi j u hj)⟩
end

/-! From data to a world. -/
section
variable {P : Program} {top : Nat} {g : G} {h : H} {w : World}
theorem kids_of (hr : R P top g h w) {kd : D} {kids : List Int} (hk : KD kd kids) {v : Value} (hv : VRel g kd v) : KidsAt w v kids := by
  rcases hk with ⟨rfl, rfl⟩ | rfl
  · cases hv; exact .inl ⟨rfl, rfl⟩
  · cases hv with
    | @sl _ _ _ a cap hn hc _ =>
      refine .inr ⟨a, cap, rfl, hn, ?_, ?_⟩
      · intro hne
        cases kids with
        | nil => exact absurd rfl hne
        | cons c r => exact (hc 0 (.int .i64 c) rfl).1
      · intro i c hi
        obtain ⟨_, h2⟩ := hc i (.int .i64 c) (by rw [List.getElem?_map, hi]; rfl)
        obtain ⟨u, h3, h4⟩ := hr.imm _ _ _ h2
        rw [h4.int'] at h3
        exact h3
theorem exprs_of (hr : R P top g h w) {xd : D} {es : List EX} (hx : XD xd es) {v : Value} (hv : VRel g xd v) : ExprsAt w v es := by
  rcases hx with ⟨rfl, rfl⟩ | ⟨id, cs, rfl, hcs⟩
  · cases hv; exact .inl ⟨rfl, rfl⟩
  · cases hv with
    | @sl _ _ _ a cap hn hc _ =>
      have at' : ∀ i x, es[i]? = some x → ∃ kd rest, cs.drop (i * 5) = xc x kd ++ rest ∧ KD kd x.kids ∧ ∀ j d, (xc x kd)[j]? = some d → a.spot = none ∧ ∃ u, w.cell? ⟨a.block, a.off + i * 5 + j, none⟩ = some u ∧ VRel g d u := by
        intro i x hi
        obtain ⟨kd, rest, h1, h2⟩ := hcs i x hi
        refine ⟨kd, rest, h1, h2, fun j d hj => ?_⟩
        have h3 : cs[i * 5 + j]? = some d := by
          rw [← List.getElem?_drop, h1, List.getElem?_append_left (List.getElem?_eq_some_iff.1 hj).1]
          exact hj
        obtain ⟨h4, h5⟩ := hc _ d h3
        obtain ⟨u, h6, h7⟩ := hr.imm _ _ _ h5
        rw [← Nat.add_assoc] at h6
        exact ⟨h4, u, h6, h7⟩
      refine .inr ⟨a, cap, rfl, hn, ?_, ?_⟩
      · intro hne
        cases es with
        | nil => exact absurd rfl hne
        | cons x r =>
          obtain ⟨kd, rest, _, _, h3⟩ := at' 0 x rfl
          exact (h3 0 _ rfl).1
      · intro i x hi
        obtain ⟨kd, rest, h1, h2, h3⟩ := at' i x hi
        obtain ⟨_, u0, c0, r0⟩ := h3 0 _ rfl
        obtain ⟨_, u1, c1, r1⟩ := h3 1 _ rfl
        obtain ⟨_, u2, c2, r2⟩ := h3 2 _ rfl
        obtain ⟨_, u3, c3, r3⟩ := h3 3 _ rfl
        obtain ⟨_, u4, c4, r4⟩ := h3 4 _ rfl
        rw [r0.int'] at c0
        obtain ⟨s1, rfl, e1⟩ := r1.str'
        rw [r2.int'] at c2
        obtain ⟨s3, rfl, e3⟩ := r3.str'
        have e1 := strD_inj.1 e1
        have e3 := strD_inj.1 e3
        subst e1 e3
        refine ⟨u4, fun j u hj => ?_, kids_of hr h2 r4⟩
        match j, hj with
        | 0, hj => cases hj; exact c0
        | 1, hj => cases hj; exact c1
        | 2, hj => cases hj; exact c2
        | 3, hj => cases hj; exact c3
        | 4, hj => cases hj; exact c4
end

/-! From a world to data, whatever else is known of a cell. -/
theorem kids_cell2 {w : World} {kv : Value} {kids : List Int} (hk : KidsAt w kv kids) {b o : Nat} (hc : w.cell? ⟨b, o, none⟩ = some kv) : ∃ kd, cellD w b o = some kd ∧ KD kd kids := kids_cell (ov_none w) hk hc
theorem exprs_D2 {w : World} {xv : Value} {es : List EX} (hx : ExprsAt w xv es) : ∃ ld, XD ld es ∧ ∀ ov, (∀ a n cap, xv = .slice (some a) n cap → ∀ o, ov a.block o = none) → VRel (gW w ov) ld xv := by
  have hx' := hx
  rcases hx with ⟨rfl, rfl⟩ | ⟨a, cap, rfl, h1, h2, h3⟩
  · exact ⟨_, .inl ⟨rfl, rfl⟩, fun ov _ => .v _⟩
  · obtain ⟨ld, hld, hrel⟩ := exprs_D (ov := fun _ _ => none) (ov_none w) hx' (fun _ _ _ _ _ => rfl)
    refine ⟨ld, hld, fun ov hov => ?_⟩
    have hov := hov a _ _ rfl
    rcases hld with ⟨_, rfl⟩ | ⟨id, cs, rfl, _⟩
    · cases hrel
    · cases hrel with
      | sl hn hc hid => exact .sl hn (fun i d hi => ⟨(hc i d hi).1, imm_of (hov _) (hc i d hi).2⟩) (fun hne => by
          have := (hid hne).2.2
          cases this)
/-- A file, as data. -/
theorem file_D {w : World} {fv : Value} {es : List EX} (hf : FileAt w fv es) : ∃ ov ld, OvOk w ov ∧ XD ld es ∧ VRel (gW w ov) (.ep [.v (.slice none 0 0), .v (.slice none 0 0), ld]) fv := by
  obtain ⟨b, xv, rfl, c0, c1, c2, hx, hne⟩ := hf
  obtain ⟨ld, hld, hrel⟩ := exprs_D2 hx
  have d0 : cellD w b 0 = some (.v (.slice none 0 0)) := by unfold cellD; rw [c0]; rfl
  have d1 : cellD w b 1 = some (.v (.slice none 0 0)) := by unfold cellD; rw [c1]; rfl
  rcases hx with ⟨rfl, rfl⟩ | ⟨a, cap, rfl, h1, h2, h3⟩
  · have hl : ld = .v (.slice none 0 0) := by
      rcases hld with ⟨_, rfl⟩ | ⟨id, cs, rfl, _⟩
      · rfl
      · cases hrel (fun _ _ => none) (fun _ _ _ hh => by cases hh)
    subst hl
    have d2 : cellD w b 2 = some (.v (.slice none 0 0)) := by unfold cellD; rw [c2]; rfl
    refine ⟨fun _ _ => none, _, ov_none w, hld, .ep fun i d hi => ?_⟩
    match i, hi with
    | 0, hi => cases hi; exact imm_of rfl d0
    | 1, hi => cases hi; exact imm_of rfl d1
    | 2, hi => cases hi; exact imm_of rfl d2
  · by_cases hes : es = []
    · subst hes
      have d2 : cellD w b 2 = some (.sl 0 0 []) := by
        unfold cellD
        rw [c2]
        show sl1 w _ = _
        simp only [sl1, List.length_nil, ble_of (Nat.zero_le cap), Nat.beq_refl, Bool.true_or, Bool.and_self, cond_true, row1]
      refine ⟨fun _ _ => none, .sl 0 0 [], ov_none w, .inr ⟨0, [], rfl, fun i x hi => by simp at hi⟩, .ep fun i d hi => ?_⟩
      match i, hi with
      | 0, hi => cases hi; exact imm_of rfl d0
      | 1, hi => cases hi; exact imm_of rfl d1
      | 2, hi => cases hi; exact imm_of rfl d2
    have hab := hne a _ _ rfl hes
    let ov : Nat → Nat → Option D := fun b' o' => if b' = b ∧ o' = 2 then some ld else none
    have hov : ∀ a' n c, Value.slice (some a) es.length cap = .slice (some a') n c → ∀ o, ov a'.block o = none := by
      intro a' n c hh o
      cases hh
      exact if_neg (fun hh => hab hh.1)
    have hr := hrel ov hov
    refine ⟨ov, ld, ⟨fun b' o' d hd => ?_, fun b' o' d hd => ?_⟩, hld, .ep fun i d hi => ?_⟩
    · have hd : (if b' = b ∧ o' = 2 then some ld else none) = some d := hd
      by_cases hh : b' = b ∧ o' = 2
      · rw [if_pos hh] at hd
        have hd3 := Option.some.inj hd
        obtain ⟨h7, h8⟩ := hh
        rw [h7, h8, ← hd3]
        exact ⟨_, c2, hr⟩
      · rw [if_neg hh] at hd; cases hd
    · have hd : (if b' = b ∧ o' = 2 then some ld else none) = some d := hd
      by_cases hh : b' = b ∧ o' = 2
      · rw [hh.1, hh.2]
        unfold cell1
        rw [c2]
        rfl
      · rw [if_neg hh] at hd; cases hd
    · match i, hi with
      | 0, hi => cases hi; exact imm_of (if_neg (by simp)) d0
      | 1, hi => cases hi; exact imm_of (if_neg (by simp)) d1
      | 2, hi =>
        cases hi
        show (match (if b = b ∧ 0 + 2 = 2 then some ld else none) with
          | some d => some d
          | none => cellD w b (0 + 2)) = some ld
        rw [if_pos ⟨rfl, rfl⟩]
def arow (v : VV) : List Value := [.string v.name, .int .u64 v.lo, .int .u64 v.hi]
def erow (v : VV) : List Value := [.string v.name, .int .u64 (max v.lo (min v.n v.hi))]
theorem rows_ac : ∀ vs : List VV, rowsD (vs.map arow) = acD vs
  | [] => rfl
  | v :: r => by
    have := rows_ac r
    simp only [rowsD, List.map_cons, List.flatMap_cons, acD] at this ⊢
    rw [this]
    rfl
theorem rows_ec : ∀ vs : List VV, rowsD (vs.map erow) = ecD vs
  | [] => rfl
  | v :: r => by
    have := rows_ec r
    simp only [rowsD, List.map_cons, List.flatMap_cons, ecD] at this ⊢
    rw [this]
    rfl
theorem simp_arow (v : VV) : ∀ u ∈ arow v, (simp1 u).isSome = true := by
  intro u hu
  simp only [arow, List.mem_cons, List.not_mem_nil, or_false] at hu
  rcases hu with rfl | rfl | rfl <;> rfl
theorem simp_erow (v : VV) : ∀ u ∈ erow v, (simp1 u).isSome = true := by
  intro u hu
  simp only [erow, List.mem_cons, List.not_mem_nil, or_false] at hu
  rcases hu with rfl | rfl <;> rfl

/-! The functions. -/
theorem files_any {w : World} {lv : Value} {es : List EX} (hl : ExprsAt w lv es) : Calls Go.Proofs.Try.prog 6 #[lv] w fun e w' => ∃ fv gv, e = .returned (.tuple #[fv, gv]) ∧ FileAt w' fv (fileN es) ∧ Below w.heap.size w w' := by
  have ok := ov_none w
  obtain ⟨ld, h1, h2⟩ := exprs_D ok hl (fun a n cap _ o => rfl)
  refine (world_calls told' TT_ok (fun _ => rfl) ok (files_ev (E := env Go.Proofs.Try.prog) h1 hTop) (.cons h2 (.nil _)) (enters_of Go.Proofs.Try.func6 (by kernel_rfl) rfl)).mono ?_
  rintro e w' ⟨d, h', v, g', ⟨gd, xd, rfl, q1, F1, hxd, _, _⟩, rfl, hr, hv, hb, _⟩
  cases hv with
  | tup hsz hv =>
    rename_i cs
    obtain ⟨fv, gv, rfl, r0, r1⟩ := VRels.two' (d1 := .ptr hTop.next 0) (d2 := gd) (args := cs) ⟨by simpa using hsz, fun i d v hd hu => hv i d v hd (by simpa using hu)⟩
    refine ⟨fv, gv, rfl, ?_, hb⟩
    cases r0 with
    | ptr hbl =>
      rename_i b
      rw [hget_eq] at F1
      obtain ⟨b', ob, hb', hob, hlies⟩ := hr.obj _ _ F1 (by intro n e hh; cases hh)
      rw [hbl] at hb'
      cases hb'
      cases hlies with
      | cells hvs =>
        rename_i c
        obtain ⟨v0, e0, r0⟩ := hvs.some (i := 0) rfl
        obtain ⟨v1, e1, r1⟩ := hvs.some (i := 1) rfl
        obtain ⟨v2, e2, r2⟩ := hvs.some (i := 2) rfl
        cases r0
        cases r1
        have cell : ∀ i u, c.toList[i]? = some u → w'.cell? ⟨b, i, none⟩ = some u := fun i u hu => by simp only [World.cell?, hob]; simpa using hu
        refine ⟨b, v2, rfl, cell 0 _ e0, cell 1 _ e1, cell 2 _ e2, exprs_of hr hxd r2, ?_⟩
        rintro a n cap rfl hes hab
        have hnone := (hr.blkown _ b hbl).2
        rcases hxd with ⟨_, rfl⟩ | ⟨id, cs, rfl, hcs⟩
        · cases r2
        · cases r2 with
          | sl hn hc hid =>
            cases hfe : fileN es with
            | nil => exact hes hfe
            | cons x r =>
              obtain ⟨kd, rest, h1, _⟩ := hcs 0 x (by rw [hfe]; rfl)
              have h3 : cs[0]? = some (.int .i64 x.kind) := by
                have h4 : (cs.drop (0 * 5))[0]? = some (.int .i64 x.kind) := by rw [h1]; rfl
                simpa using h4
              have := (hc 0 _ h3).2
              rw [hab, hnone] at this
              cases this
end Go.Abs.Sy
