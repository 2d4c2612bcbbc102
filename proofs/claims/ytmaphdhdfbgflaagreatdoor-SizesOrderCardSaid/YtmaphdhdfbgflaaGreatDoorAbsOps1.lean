/- Each operation, in a world and on plain data: those that make, read and write cells. -/
import Derived.Test.YtmaphdhdfbgflaaGreatDoorAbsComp
import Derived.Test.YtmaphdhdfbgflaaGreatDoorAbsRel2
set_option linter.unusedVariables false
namespace Go.Abs

/-- What an operation leaves. -/
def Post (P : Program) (top : Nat) (g : G) (h : H) (w : World) (d : D) (h' : H) (v : Value) (w' : World) : Prop := ∃ g', Ext g h w g' h' w' ∧ R P top g' h' w' ∧ VRel g' d v
theorem Post.same {P : Program} {top : Nat} {g : G} {h : H} {w : World} (hr : R P top g h w) {d : D} {v : Value} (hv : VRel g d v) : Post P top g h w d h v w := ⟨g, .refl g h w, hr, hv⟩
theorem Post.world {P : Program} {top : Nat} {g : G} {h : H} {w w' : World} (hr : R P top g h w) (hh : w'.heap = w.heap) (ho : w'.os = w.os) (ht : w'.tape = w.tape) (hp : w'.output = w.output) {d : D} {v : Value} (hv : VRel g d v) : Post P top g h w d h v w' :=
  ⟨g, .world hh ho ht hp, hr.world hh, hv⟩

/-- The operation runs so. -/
def Does (P : Program) (ρ : Operand → Value) (o : Oper) (w : World) (v : Value) (w' : World) : Prop :=
  (execOp ρ o).run P w = .ok (.value v) w' ∨ ((execOp ρ o).run P w = .ok .skip w' ∧ v = undef)

/-- An operand, and what stands for it. -/
def ORel (g : G) (a : AAct) (ρ : Operand → Value) (glob : Nat → Option (List D)) : Prop := ∀ x y, copd glob x = some y → VRel g (a.eval y) (ρ x)

section
variable {P : Program} {top : Nat} {glob : Nat → Option (List D)} {g : G} {h h' : H} {w : World} {a : AAct} {ρ : Operand → Value} {o : Oper} {d : D}

theorem zero?_spec {t : TypeId} {z : D} (hz : zero? P t = some z) : ∃ i zv, P.info? t = some i ∧ i.zero = some zv ∧ z = .of zv ∧ ∀ w, (zeroValue t).run P w = .ok zv w := by
  unfold zero? at hz
  split at hz
  · rename_i i hi
    split at hz
    · rename_i zv hzv
      simp at hz
      exact ⟨i, zv, hi, hzv, hz.symm, fun w => by simp [zeroValue, typeInfo, hi, hzv]⟩
    · cases hz
  · cases hz
theorem size?_spec {t : TypeId} {n : Nat} (hz : size? P t = some n) : ∃ i, P.info? t = some i ∧ i.size = n ∧ P.cellsOf t = n ∧ ∀ w, (sizeOf t).run P w = .ok n w := by
  unfold size? at hz
  cases hi : P.info? t with
  | none => simp [hi] at hz
  | some i => simp [hi] at hz; exact ⟨i, rfl, hz, by simp [Program.cellsOf, hi, hz], fun w => by simp [sizeOf, typeInfo, hi, hz]⟩
theorem bytes?_spec {t : TypeId} {n : Nat} (hz : bytes? P t = some n) : ∃ i, P.info? t = some i ∧ i.bytes = n := by
  unfold bytes? at hz
  cases hi : P.info? t with
  | none => simp [hi] at hz
  | some i => simp [hi] at hz; exact ⟨i, rfl, hz⟩
theorem isAgg?_spec {t : TypeId} {b : Bool} (hz : isAgg? P t = some b) : ∀ w, (isAgg t).run P w = .ok b w := by
  intro w
  unfold isAgg? at hz
  unfold isAgg
  split at hz
  · rename_i u; simp at hz; subst hz; simp [run_underlying u]
  · rename_i u; simp at hz; subst hz; simp [run_underlying u]
  · rename_i de hn1 hn2 u
    simp at hz; subst hz
    simp only [Sem.run_bind, run_underlying u, Result.andThen_ok]
    cases de <;> first | rfl | exact absurd rfl (hn1 _) | exact absurd rfl (hn2 _ _) | simp_all
  · cases hz

theorem ORel.evals (he : ORel g a ρ glob) : ∀ {xs : List Operand} {ys : List Opd}, copds glob xs = some ys → VRels g (a.evals ys) (xs.map ρ)
  | [], ys, h => by simp [copds] at h; subst h; exact .nil g
  | x :: r, ys, h => by
    simp only [copds] at h
    split at h
    · rename_i y l h1 h2
      simp at h; subst h
      exact .cons (he x y h1) (ORel.evals he h2)
    · simp at h

theorem sim_box {t : TypeId} {x : Operand} {y : Opd} (ho : o.op = .box t x) (hx : copd glob x = some y) (he : ORel g a ρ glob) (hr : R P top g h w) (htop : h'.next ≤ top) (call : Call) (E : Env)
    (hrun : r_box t y E call a h = .ok d h') : ∃ v w', Does P ρ o w v w' ∧ Post P top g h w d h' v w' := by
  have hl : Lies g (.cells t (a.eval y).cells) (.cells (ρ x).cells t (0, 0)) := .cells (he x y hx).cells
  simp only [r_box, H.new] at hrun
  cases hrun
  obtain ⟨g', hE, hR, hb⟩ := hr.new htop hl
  refine ⟨.pointer (some ⟨w.heap.size, 0, none⟩), w.alloc (.cells (ρ x).cells t (0, 0)), .inl ?_, g', hE, hR, .ptr hb⟩
  simp [execOp, ho, Instr.box, newVar, newRow]

theorem sim_alloc {t : TypeId} {z : D} (ho : o.op = .alloc t) (hz : zero? P t = some z) (hr : R P top g h w) (htop : h'.next ≤ top) (call : Call) (E : Env)
    (hrun : r_alloc t z.cells E call a h = .ok d h') : ∃ v w', Does P ρ o w v w' ∧ Post P top g h w d h' v w' := by
  obtain ⟨i, zv, hi, hzv, rfl, hzr⟩ := zero?_spec hz
  have hl : Lies g (.cells t (D.of zv).cells) (.cells zv.cells t (0, 0)) := .cells (VRel.of g zv).cells
  simp only [r_alloc, H.new] at hrun
  cases hrun
  obtain ⟨g', hE, hR, hb⟩ := hr.new htop hl
  refine ⟨.pointer (some ⟨w.heap.size, 0, none⟩), w.alloc (.cells zv.cells t (0, 0)), .inl ?_, g', hE, hR, .ptr hb⟩
  simp [execOp, ho, Instr.alloc, hzr, newVar, newRow]

theorem sim_ld {t : TypeId} {x : Operand} {y : Opd} {n : Nat} (ho : o.op = .load t x) (hx : copd glob x = some y) (hn : size? P t = some n) (ha : isAgg? P t = some true) (he : ORel g a ρ glob) (hr : R P top g h w) (call : Call) (E : Env)
    (hrun : r_ldN n y E call a h = .ok d h') : ∃ v w', Does P ρ o w v w' ∧ Post P top g h w d h' v w' := by
  simp only [r_ldN] at hrun
  split at hrun
  · rename_i cs hc
    cases hrun
    obtain ⟨b, off, vs, hv, hvs, hlen, hcell⟩ := readCells_sim hr hc (he x y hx)
    obtain ⟨i, hi, his, hic, hsz⟩ := size?_spec hn
    have hag := isAgg?_spec ha
    have hl : (loadCells ⟨b, off, none⟩ vs.length).run P w = .ok vs.toArray w := run_loadCells_list (P := P) w ⟨b, off, none⟩ vs (fun j v hj => by rw [add_plain]; exact hcell j v hj)
    rw [hlen] at hl
    refine ⟨.agg vs.toArray, w, .inl ?_, Post.same hr (.agg' (by simpa using hvs))⟩
    simp [execOp, ho, hv, Instr.loadAt, Instr.sureAddr, loadVar, hag, hsz, hl]
  · cases hrun
theorem sim_ld1 {t : TypeId} {x : Operand} {y : Opd} (ho : o.op = .load t x) (hx : copd glob x = some y) (ha : isAgg? P t = some false) (he : ORel g a ρ glob) (hr : R P top g h w) (call : Call) (E : Env)
    (hrun : r_ld1 y E call a h = .ok d h') : ∃ v w', Does P ρ o w v w' ∧ Post P top g h w d h' v w' := by
  simp only [r_ld1] at hrun
  split at hrun
  · rename_i c hc
    cases hrun
    obtain ⟨b, off, vs, hv, hvs, hlen, hcell⟩ := readCells_sim hr hc (he x y hx)
    have hag := isAgg?_spec ha
    obtain ⟨v, hv0, hvr⟩ := hvs.some (i := 0) rfl
    have h0 := hcell 0 v hv0
    refine ⟨v, w, .inl ?_, Post.same hr hvr⟩
    simp [execOp, ho, hv, Instr.loadAt, Instr.sureAddr, loadVar, hag, load, Sem.run, show w.cell? ⟨b, off, none⟩ = some v from h0]
  · cases hrun

theorem patch_spec {cs xs r : List D} {off : Nat} (hp : patch cs off xs = some r) : off + xs.length ≤ cs.length ∧ r = cs.take off ++ xs ++ cs.drop (off + xs.length) := by
  unfold patch at hp
  cases hb : Nat.ble (off + xs.length) cs.length with
  | false => rw [hb] at hp; cases hp
  | true => rw [hb] at hp; simp at hp; exact ⟨Nat.le_of_ble_eq_true hb, by simp [← hp]⟩
theorem VRels.patch {g : G} {cs xs : List D} {vs us : List Value} (h : VRels g cs vs) (k : VRels g xs us) (off : Nat) :
    VRels g (cs.take off ++ xs ++ cs.drop (off + xs.length)) (vs.take off ++ us ++ vs.drop (off + us.length)) := by
  rw [← k.1]
  exact ((h.take off).append k).append (h.drop _)

theorem store_sim {P : Program} {top : Nat} {g : G} {h h' : H} {w : World} (hr : R P top g h w) {n : Nat} {x y : D} {u v : Value} (hs : storeD h n x y = some h') (hx : VRel g x u) (hy : VRel g y v) {t : TypeId} (hn : size? P t = some n) :
    ∃ b off w', u = .pointer (some ⟨b, off, none⟩) ∧ (storeVar t ⟨b, off, none⟩ v).run P w = .ok () w' ∧ Ext g h w g h' w' ∧ R P top g h' w' := by
  cases x <;> simp only [storeD] at hs <;> try (simp at hs; done)
  rename_i l off
  cases hx with
  | ptr hb =>
    rename_i b
    split at hs
    · rename_i ty cs hm
      cases hc : Nat.beq y.cells.length n && allOne y.cells with
      | false => rw [hc] at hs; cases hs
      | true =>
        rw [hc] at hs
        simp only [cond_true] at hs
        rw [Bool.and_eq_true] at hc
        have hlen := Nat.eq_of_beq_eq_true hc.1
        split at hs
        · rename_i r hp
          simp at hs
          subst hs
          obtain ⟨hle, rfl⟩ := patch_spec hp
          obtain ⟨b', ob, h1, h2, h3⟩ := hr.obj l _ hm (by simp)
          rw [hb] at h1
          cases h1
          cases h3 with
          | cells hv =>
            rename_i c
            obtain ⟨i, hi, his, hic, hsz⟩ := size?_spec hn
            have hyv := hy.cells
            have hone := hyv.one hc.2
            have hcl : cs.length = c.size := by simpa using hv.1
            have hul : v.cells.toList.length = n := by rw [← hyv.1]; exact hlen
            have hrun := run_storeCells_at P b off ty v.cells.toList 0 c w h2 (by rw [Nat.add_zero, ← hyv.1, ← hcl]; exact hle) hone
            rw [Nat.add_zero] at hrun
            refine ⟨b, off, w.setRow b (c.toList.take off ++ v.cells.toList ++ c.toList.drop (off + v.cells.toList.length)).toArray, rfl, ?_, ?_⟩
            · have : v.cells.size = n := by simpa using hul
              simp [storeVar, hsz, this, hrun]
            · refine hr.put (o := .cells ty cs) hm (by simp) hb ?_ (by simp) (setRow_heap w b c _ ty _ h2) (.cells ?_)
              · exact ⟨rfl, rfl, rfl, by simp, fun k hk hkb => setRow_other w b k _ (fun e => hkb (by rw [e]))⟩
              · have := hv.patch hyv off
                simpa using this
        · cases hs
    · cases hs
theorem sim_st {t : TypeId} {x z : Operand} {y u : Opd} {n : Nat} (ho : o.op = .store t x z) (hx : copd glob x = some y) (hz : copd glob z = some u) (hn : size? P t = some n) (he : ORel g a ρ glob) (hr : R P top g h w) (call : Call) (E : Env)
    (hrun : r_st n y u E call a h = .ok d h') : ∃ v w', Does P ρ o w v w' ∧ Post P top g h w d h' v w' := by
  simp only [r_st] at hrun
  split at hrun
  · rename_i h2 hs
    cases hrun
    obtain ⟨b, off, w', hv, hst, hE, hR⟩ := store_sim hr hs (he x y hx) (he z u hz) hn
    refine ⟨undef, w', .inr ⟨?_, rfl⟩, g, hE, hR, .undef g⟩
    simp [execOp, ho, hv, Instr.storeAt, Instr.sureAddr, hst]
  · cases hrun
end
end Go.Abs
