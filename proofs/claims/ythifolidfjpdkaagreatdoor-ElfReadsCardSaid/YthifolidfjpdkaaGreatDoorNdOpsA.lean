/- Each operation, in a world and on plain data: those that make, read and write cells. -/
import Derived.Test.YthifolidfjpdkaaGreatDoorNdRun
import Derived.Test.YthifolidfjpdkaaGreatDoorNdRel
import Derived.IntWalk
import Derived.Lib.SmallJoins
import Derived.Lib.ConvBytes
import Derived.Laws.BytesString
set_option linter.unusedVariables false
set_option linter.unusedSimpArgs false
namespace Go.Abs
noncomputable section
def ZH (P : Program) (top : Nat) (g : G) (h : H) (w : World) (d : D) (h' : H) (v : Value) (w' : World) : Prop := ∃ g', Ext g h w g' h' w' ∧ R P top g' h' w' ∧ VRel g' d v
theorem ZH.same {P : Program} {top : Nat} {g : G} {h : H} {w : World} (hr : R P top g h w) {d : D} {v : Value} (hv : VRel g d v) : ZH P top g h w d h v w := ⟨g, .refl g h w, hr, hv⟩
theorem ZH.world {P : Program} {top : Nat} {g : G} {h : H} {w w' : World} (hr : R P top g h w) (hh : w'.heap = w.heap) (ho : w'.os = w.os) (ht : w'.tape = w.tape) (hp : w'.output = w.output) {d : D} {v : Value} (hv : VRel g d v) : ZH P top g h w d h v w' :=
  ⟨g, .world hh ho ht hp, hr.world hh, hv⟩
def X6 (P : Program) (ρ : Operand → Value) (o : Oper) (w : World) (v : Value) (w' : World) : Prop :=
  (execOp ρ o).run P w = .ok (.value v) w' ∨ ((execOp ρ o).run P w = .ok .skip w' ∧ v = undef)
def Xd (g : G) (a : AAct) (ρ : Operand → Value) (glob : Nat → Option (List D)) : Prop := ∀ x y, ZI glob x = some y → VRel g (a.eval y) (ρ x)
section
variable {P : Program} {top : Nat} {glob : Nat → Option (List D)} {g : G} {h h' : H} {w : World} {a : AAct} {ρ : Operand → Value} {o : Oper} {d : D}
theorem WB {t : TypeId} {z : D} (hz : Ub P t = some z) : ∃ i zv, P.info? t = some i ∧ i.zero = some zv ∧ z = .of zv ∧ ∀ w, (zeroValue t).run P w = .ok zv w := by
  unfold Ub at hz
  split at hz
  · rename_i i hi
    split at hz
    · rename_i zv hzv
      simp at hz
      exact ⟨i, zv, hi, hzv, hz.symm, fun w => by simp [zeroValue, typeInfo, hi, hzv]⟩
    · cases hz
  · cases hz
theorem Yt {t : TypeId} {n : Nat} (hz : YE P t = some n) : ∃ i, P.info? t = some i ∧ i.size = n ∧ P.cellsOf t = n ∧ ∀ w, (sizeOf t).run P w = .ok n w := by
  unfold YE at hz
  cases hi : P.info? t with
  | none => simp [hi] at hz
  | some i => simp [hi] at hz; exact ⟨i, rfl, hz, by simp [Program.cellsOf, hi, hz], fun w => by simp [sizeOf, typeInfo, hi, hz]⟩
theorem Zko {t : TypeId} {n : Nat} (hz : Zj6 P t = some n) : ∃ i, P.info? t = some i ∧ i.bytes = n := by
  unfold Zj6 at hz
  cases hi : P.info? t with
  | none => simp [hi] at hz
  | some i => simp [hi] at hz; exact ⟨i, rfl, hz⟩
theorem Zbo {t : TypeId} {b : Bool} (hz : Zcu P t = some b) : ∀ w, (isAgg t).run P w = .ok b w := by
  intro w
  unfold Zcu at hz
  unfold isAgg
  split at hz
  · rename_i u; simp at hz; subst hz; simp [run_underlying u]
  · rename_i u; simp at hz; subst hz; simp [run_underlying u]
  · rename_i de hn1 hn2 u
    simp at hz; subst hz
    simp only [Sem.run_bind, run_underlying u, Result.andThen_ok]
    cases de <;> first | rfl | exact absurd rfl (hn1 _) | exact absurd rfl (hn2 _ _) | simp_all
  · cases hz
theorem Xd.evals (he : Xd g a ρ glob) : ∀ {xs : List Operand} {ys : List Opd}, Zfs glob xs = some ys → Zx g (a.evals ys) (xs.map ρ)
  | [], ys, h => by simp [Zfs] at h; subst h; exact .nil g
  | x :: r, ys, h => by
    simp only [Zfs] at h
    split at h
    · rename_i y l h1 h2
      simp at h; subst h
      exact .cons (he x y h1) (Xd.evals he h2)
    · simp at h
theorem Z2m {t : TypeId} {x : Operand} {y : Opd} (ho : o.op = .box t x) (hx : ZI glob x = some y) (he : Xd g a ρ glob) (hr : R P top g h w) (htop : h'.next ≤ top) (call : Call) (E : Env)
    (hrun : Zh9 t y E call a h = .ok d h') : ∃ v w', X6 P ρ o w v w' ∧ ZH P top g h w d h' v w' := by
  have hl : Lies g (.cells t (a.eval y).cells) (.cells (ρ x).cells t (0, 0)) := .cells (he x y hx).cells
  simp only [Zh9, H.new] at hrun
  cases hrun
  obtain ⟨g', hE, hR, hb⟩ := hr.new htop hl
  refine ⟨.pointer (some ⟨w.heap.size, 0, none⟩), w.alloc (.cells (ρ x).cells t (0, 0)), .inl ?_, g', hE, hR, .ptr hb⟩
  simp [execOp, ho, Instr.box, newVar, newRow]
theorem Zwx {t : TypeId} {z : D} (ho : o.op = .alloc t) (hz : Ub P t = some z) (hr : R P top g h w) (htop : h'.next ≤ top) (call : Call) (E : Env)
    (hrun : Zb8 t z.cells E call a h = .ok d h') : ∃ v w', X6 P ρ o w v w' ∧ ZH P top g h w d h' v w' := by
  obtain ⟨i, zv, hi, hzv, rfl, hzr⟩ := WB hz
  have hl : Lies g (.cells t (D.of zv).cells) (.cells zv.cells t (0, 0)) := .cells (VRel.of g zv).cells
  simp only [Zb8, H.new] at hrun
  cases hrun
  obtain ⟨g', hE, hR, hb⟩ := hr.new htop hl
  refine ⟨.pointer (some ⟨w.heap.size, 0, none⟩), w.alloc (.cells zv.cells t (0, 0)), .inl ?_, g', hE, hR, .ptr hb⟩
  simp [execOp, ho, Instr.alloc, hzr, newVar, newRow]
theorem sim_ld {t : TypeId} {x : Operand} {y : Opd} {n : Nat} (ho : o.op = .load t x) (hx : ZI glob x = some y) (hn : YE P t = some n) (ha : Zcu P t = some true) (he : Xd g a ρ glob) (hr : R P top g h w) (call : Call) (E : Env)
    (hrun : Zf5 n y E call a h = .ok d h') : ∃ v w', X6 P ρ o w v w' ∧ ZH P top g h w d h' v w' := by
  simp only [Zf5] at hrun
  split at hrun
  · rename_i cs hc
    cases hrun
    obtain ⟨b, off, vs, hv, hvs, hlen, hcell⟩ := XW hr hc (he x y hx)
    obtain ⟨i, hi, his, hic, hsz⟩ := Yt hn
    have hag := Zbo ha
    have hl : (loadCells ⟨b, off, none⟩ vs.length).run P w = .ok vs.toArray w := run_loadCells_list (P := P) w ⟨b, off, none⟩ vs (fun j v hj => by rw [YC]; exact hcell j v hj)
    rw [hlen] at hl
    refine ⟨.agg vs.toArray, w, .inl ?_, ZH.same hr (.agg' (by simpa using hvs))⟩
    simp [execOp, ho, hv, Instr.loadAt, Instr.sureAddr, loadVar, hag, hsz, hl]
  · cases hrun
theorem Z2h {t : TypeId} {x : Operand} {y : Opd} (ho : o.op = .load t x) (hx : ZI glob x = some y) (ha : Zcu P t = some false) (he : Xd g a ρ glob) (hr : R P top g h w) (call : Call) (E : Env)
    (hrun : Zf6 y E call a h = .ok d h') : ∃ v w', X6 P ρ o w v w' ∧ ZH P top g h w d h' v w' := by
  simp only [Zf6] at hrun
  split at hrun
  · rename_i c hc
    cases hrun
    obtain ⟨b, off, vs, hv, hvs, hlen, hcell⟩ := XW hr hc (he x y hx)
    have hag := Zbo ha
    obtain ⟨v, hv0, hvr⟩ := hvs.some (i := 0) rfl
    have h0 := hcell 0 v hv0
    refine ⟨v, w, .inl ?_, ZH.same hr hvr⟩
    simp [execOp, ho, hv, Instr.loadAt, Instr.sureAddr, loadVar, hag, load, Sem.run, show w.cell? ⟨b, off, none⟩ = some v from h0]
  · cases hrun
theorem Zhp {cs xs r : List D} {off : Nat} (hp : patch cs off xs = some r) : off + xs.length ≤ cs.length ∧ r = cs.take off ++ xs ++ cs.drop (off + xs.length) := by
  unfold patch at hp
  cases hb : Nat.ble (off + xs.length) cs.length with
  | false => rw [hb] at hp; cases hp
  | true => rw [hb] at hp; simp at hp; exact ⟨Nat.le_of_ble_eq_true hb, by simp [← hp]⟩
theorem Zx.patch {g : G} {cs xs : List D} {vs us : List Value} (h : Zx g cs vs) (k : Zx g xs us) (off : Nat) :
    Zx g (cs.take off ++ xs ++ cs.drop (off + xs.length)) (vs.take off ++ us ++ vs.drop (off + us.length)) := by
  rw [← k.1]
  exact ((h.take off).append k).append (h.drop _)
theorem Zwq {P : Program} {top : Nat} {g : G} {h h' : H} {w : World} (hr : R P top g h w) {n : Nat} {x y : D} {u v : Value} (hs : Zhj h n x y = some h') (hx : VRel g x u) (hy : VRel g y v) {t : TypeId} (hn : YE P t = some n) :
    ∃ b off w', u = .pointer (some ⟨b, off, none⟩) ∧ (storeVar t ⟨b, off, none⟩ v).run P w = .ok () w' ∧ Ext g h w g h' w' ∧ R P top g h' w' := by
  cases x <;> simp only [Zhj] at hs <;> try (simp at hs; done)
  rename_i l off
  cases hx with
  | ptr hb =>
    rename_i b
    split at hs
    · rename_i ty cs hm
      cases hc : Nat.beq y.cells.length n && Y8 y.cells with
      | false => rw [hc] at hs; cases hs
      | true =>
        rw [hc] at hs
        simp only [cond_true] at hs
        rw [Bool.and_eq_true] at hc
        have hlen := Nat.eq_of_beq_eq_true hc.1
        split at hs
        · rename_i r hp
          simp at hs
          subst hs
          obtain ⟨hle, rfl⟩ := Zhp hp
          obtain ⟨b', ob, h1, h2, h3⟩ := hr.obj l _ hm (by simp)
          rw [hb] at h1
          cases h1
          cases h3 with
          | cells hv =>
            rename_i c
            obtain ⟨i, hi, his, hic, hsz⟩ := Yt hn
            have hyv := hy.cells
            have hone := hyv.one hc.2
            have hcl : cs.length = c.size := by simpa using hv.1
            have hul : v.cells.toList.length = n := by rw [← hyv.1]; exact hlen
            have hrun := run_storeCells_at P b off ty v.cells.toList 0 c w h2 (by rw [Nat.add_zero, ← hyv.1, ← hcl]; exact hle) hone
            rw [Nat.add_zero] at hrun
            refine ⟨b, off, w.setRow b (c.toList.take off ++ v.cells.toList ++ c.toList.drop (off + v.cells.toList.length)).toArray, rfl, ?_, ?_⟩
            · have : v.cells.size = n := by simpa using hul
              simp [storeVar, hsz, this, hrun]
            · refine hr.put (o := .cells ty cs) hm (by simp) hb ?_ (by simp) (setRow_heap w b c _ ty _ h2) (.cells ?_)
              · exact ⟨rfl, rfl, rfl, by simp, fun k hk hkb => setRow_other w b k _ (fun e => hkb (by rw [e]))⟩
              · have := hv.patch hyv off
                simpa using this
        · cases hs
    · cases hs
theorem sim_st {t : TypeId} {x z : Operand} {y u : Opd} {n : Nat} (ho : o.op = .store t x z) (hx : ZI glob x = some y) (hz : ZI glob z = some u) (hn : YE P t = some n) (he : Xd g a ρ glob) (hr : R P top g h w) (call : Call) (E : Env)
    (hrun : Znn n y u E call a h = .ok d h') : ∃ v w', X6 P ρ o w v w' ∧ ZH P top g h w d h' v w' := by
  simp only [Znn] at hrun
  split at hrun
  · rename_i h2 hs
    cases hrun
    obtain ⟨b, off, w', hv, hst, hE, hR⟩ := Zwq hr hs (he x y hx) (he z u hz) hn
    refine ⟨undef, w', .inr ⟨?_, rfl⟩, g, hE, hR, .undef g⟩
    simp [execOp, ho, hv, Instr.storeAt, Instr.sureAddr, hst]
  · cases hrun
end
end
end Go.Abs
namespace Go.Abs
noncomputable section
section
variable {P : Program} {top : Nat} {glob : Nat → Option (List D)} {g : G} {h h' : H} {w : World} {a : AAct} {ρ : Operand → Value} {o : Oper} {d : D}
theorem Zli (k : IntKind) (n : Int) : Zfk k n = k.wrap n := by
  unfold Zfk
  cases hi : Z0p k n with
  | false => rfl
  | true =>
    simp only [cond_true]
    cases k <;> simp only [Z0p, Bool.and_eq_true, decide_eq_true_eq] at hi
    · exact (IntWalk.i8_in n hi).symm
    · exact (IntWalk.i16_in n hi).symm
    · exact (IntWalk.i32_in n hi).symm
    · exact (IntWalk.i64_in n hi).symm
    · exact (IntWalk.u8_in n hi).symm
    · exact (IntWalk.u16_in n hi).symm
    · exact (IntWalk.u32_in n hi).symm
    · exact (IntWalk.u64_in n hi).symm
theorem Zde : ∀ (a b : List Nat), U5 a b = decide (a = b)
  | [], [] => rfl
  | [], b :: y => by simp [U5]
  | a :: x, [] => by simp [U5]
  | a :: x, b :: y => by
    simp only [U5, Zde x y]
    by_cases h : a = b
    · subst h; simp
    · have : Nat.beq a b = false := by cases hb : Nat.beq a b with
        | false => rfl
        | true => exact absurd (Nat.eq_of_beq_eq_true hb) h
      simp [this, h]
theorem Zd8 {s t : ByteArray} : ZQ s = ZQ t ↔ s = t := by
  constructor
  · intro h; rw [← Zi3 s, ← Zi3 t, h]
  · rintro rfl; rfl
theorem Zyu {x : Operand} {y : Opd} (ho : o.op = .move x ∨ o.op = .assign x) (hx : ZI glob x = some y) (he : Xd g a ρ glob) (hr : R P top g h w) (call : Call) (E : Env)
    (hrun : Zpn y E call a h = .ok d h') : ∃ v w', X6 P ρ o w v w' ∧ ZH P top g h w d h' v w' := by
  simp only [Zpn] at hrun
  cases hrun
  exact ⟨ρ x, w, .inl (by rcases ho with ho | ho <;> simp [execOp, ho]), ZH.same hr (he x y hx)⟩
theorem Zyt {c x z : Operand} {c' y u : Opd} (ho : o.op = .pick c x z) (hc : ZI glob c = some c') (hx : ZI glob x = some y) (hz : ZI glob z = some u) (he : Xd g a ρ glob) (hr : R P top g h w) (call : Call) (E : Env)
    (hrun : Ze2 c' y u E call a h = .ok d h') : ∃ v w', X6 P ρ o w v w' ∧ ZH P top g h w d h' v w' := by
  simp only [Ze2] at hrun
  have h1 := he c c' hc
  split at hrun
  · rename_i b hb
    rw [hb] at h1
    cases hrun
    have hcv : ρ c = .bool b := by
      generalize hv : ρ c = v at h1
      cases h1; rfl
    refine ⟨if b then ρ x else ρ z, w, .inl (by simp [execOp, ho, hcv, asBool]), ZH.same hr ?_⟩
    cases b
    · exact he z u hz
    · exact he x y hx
  · cases hrun
theorem Zph {x : Operand} {y : Opd} (ho : o.op = .nilCheck x) (hx : ZI glob x = some y) (he : Xd g a ρ glob) (hr : R P top g h w) (call : Call) (E : Env)
    (hrun : X3 y E call a h = .ok d h') : ∃ v w', X6 P ρ o w v w' ∧ ZH P top g h w d h' v w' := by
  simp only [X3] at hrun
  have h1 := he x y hx
  split at hrun <;> (first | (cases hrun; done) | skip)
  all_goals
    rename_i hb
    rw [hb] at h1
    cases hrun
    refine ⟨ρ x, w, .inl ?_, ZH.same hr h1⟩
    generalize hv : ρ x = v at h1
    cases h1 <;> simp [execOp, ho, hv]
theorem Zww {t : TypeId} {x : Operand} {y : Opd} {u : TypeDesc} (ho : o.op = .makeInterface t x) (hu : P.underlying t = some u) (hni : ∀ ms, u ≠ .interface ms) (hx : ZI glob x = some y) (he : Xd g a ρ glob) (hr : R P top g h w) (call : Call) (E : Env)
    (hrun : Vf t y E call a h = .ok d h') : ∃ v w', X6 P ρ o w v w' ∧ ZH P top g h w d h' v w' := by
  simp only [Vf] at hrun
  cases hrun
  refine ⟨.iface t (ρ x), w, .inl ?_, ZH.same hr (.iface (he x y hx))⟩
  simp only [execOp, ho, Instr.makeInterface, Sem.run_bind, run_underlying hu, Result.andThen_ok]
  cases u <;> first | exact absurd rfl (hni _) | rfl
theorem Z2f {fn : Fn} {xs zs : Array Operand} {ys us : List Opd} (ho : o.op = .makeFunc fn xs zs) (hx : Zfs glob xs.toList = some ys) (hz : Zfs glob zs.toList = some us) (he : Xd g a ρ glob) (hr : R P top g h w) (call : Call) (E : Env)
    (hrun : Zhb fn ys us E call a h = .ok d h') : ∃ v w', X6 P ρ o w v w' ∧ ZH P top g h w d h' v w' := by
  simp only [Zhb] at hrun
  cases hrun
  have h1 := he.evals hx
  have h2 := he.evals hz
  refine ⟨.func fn (xs.map ρ) (zs.map ρ), w, .inl (by simp [execOp, ho, Instr.makeFunc]), ZH.same hr (.func (by simpa using h1.1) (fun i d v hd hv => h1.2 i d v hd (by simpa using hv)) (by simpa using h2.1) (fun i d v hd hv => h2.2 i d v hd (by simpa using hv)))⟩
theorem Zwu {t : TypeId} (ho : o.op = .makeMap t none) (hr : R P top g h w) (htop : h'.next ≤ top) (call : Call) (E : Env)
    (hrun : Zb7 E call a h = .ok d h') : ∃ v w', X6 P ρ o w v w' ∧ ZH P top g h w d h' v w' := by
  have hl : Lies g (.map []) (.map #[] 0) := .map (by simp) (fun i k d e h => by simp at h)
  simp only [Zb7, H.new] at hrun
  cases hrun
  obtain ⟨g', hE, hR, hb⟩ := hr.new htop hl
  exact ⟨.map (some w.heap.size), w.alloc (.map #[] 0), .inl (by simp [execOp, ho, Instr.makeMap]), g', hE, hR, .map hb⟩
theorem Z2l {i : Nat} {x : Operand} {y : Opd} (ho : o.op = .extract x i) (hx : ZI glob x = some y) (he : Xd g a ρ glob) (hr : R P top g h w) (call : Call) (E : Env)
    (hrun : Zdo i y E call a h = .ok d h') : ∃ v w', X6 P ρ o w v w' ∧ ZH P top g h w d h' v w' := by
  simp only [Zdo] at hrun
  have h1 := he x y hx
  split at hrun
  · rename_i ds hb
    rw [hb] at h1
    cases hq : ds[i]? with
    | none => rw [hq] at hrun; cases hrun
    | some e =>
      rw [hq] at hrun
      cases hrun
      generalize hv : ρ x = v at h1
      cases h1 with
      | tup hl hp =>
        rename_i cs
        have hi : i < cs.size := by rw [← hl]; exact (List.getElem?_eq_some_iff.1 hq).1
        refine ⟨cs[i], w, .inl ?_, ZH.same hr (hp i _ _ hq (Array.getElem?_eq_getElem hi))⟩
        simp [execOp, ho, hv, Instr.extract, hi]
  · cases hrun
theorem Zy2 {s t : TypeId} {k j : IntKind} {x : Operand} {y : Opd} (ho : o.op = .convert s t x) (hs : P.underlying s = some (.int j)) (ht : P.underlying t = some (.int k)) (hx : ZI glob x = some y) (he : Xd g a ρ glob) (hr : R P top g h w) (call : Call) (E : Env)
    (hrun : Ze5 k y E call a h = .ok d h') : ∃ v w', X6 P ρ o w v w' ∧ ZH P top g h w d h' v w' := by
  simp only [Ze5] at hrun
  have h1 := he x y hx
  split at hrun
  · rename_i kk n hb
    rw [hb] at h1
    cases hrun
    generalize hv : ρ x = v at h1
    cases h1
    refine ⟨.int k (k.wrap n), w, .inl ?_, ZH.same hr (by rw [Zli]; exact .int _ _)⟩
    simp [execOp, ho, hv, convert, run_underlying hs, run_underlying ht, Conv.intToInt]
  · cases hrun
theorem Z2e {s t : TypeId} {x : Operand} {y : Opd} (ho : o.op = .convert s t x) (hs : P.underlying s = some .string) (ht : P.underlying t = some .string) (hx : ZI glob x = some y) (he : Xd g a ρ glob) (hr : R P top g h w) (call : Call) (E : Env)
    (hrun : Zha y E call a h = .ok d h') : ∃ v w', X6 P ρ o w v w' ∧ ZH P top g h w d h' v w' := by
  simp only [Zha] at hrun
  have h1 := he x y hx
  split at hrun
  · rename_i l hb
    rw [hb] at h1
    cases hrun
    generalize hv : ρ x = v at h1
    cases h1 with
    | str s => exact ⟨.string s, w, .inl (by simp [execOp, ho, hv, convert, run_underlying hs, run_underlying ht]), ZH.same hr (.str s)⟩
  · cases hrun
theorem Zy1 {s t : TypeId} {x : Operand} {y : Opd} (ho : o.op = .convert s t x) (hx : ZI glob x = some y) (he : Xd g a ρ glob) (hr : R P top g h w) (call : Call) (E : Env) (hE : E.P = P)
    (hrun : Ze4 s t y E call a h = .ok d h') : ∃ v w', X6 P ρ o w v w' ∧ ZH P top g h w d h' v w' := by
  simp only [Ze4] at hrun
  have h1 := he x y hx
  split at hrun
  · rename_i u hu
    split at hrun
    · rename_i v hv
      cases hrun
      rw [hE] at hv
      have hrv := XN hv w
      refine ⟨v, w, .inl ?_, ZH.same hr (.of g v)⟩
      simp [execOp, ho, Um hu h1, hrv]
    · cases hrun
  · cases hrun
theorem sim_un {op : UnOp} {t : TypeId} {x : Operand} {y : Opd} (ho : o.op = .unOp op t x) (hx : ZI glob x = some y) (he : Xd g a ρ glob) (hr : R P top g h w) (call : Call) (E : Env) (hE : E.P = P)
    (hrun : Zda op y E call a h = .ok d h') : ∃ v w', X6 P ρ o w v w' ∧ ZH P top g h w d h' v w' := by
  simp only [Zda] at hrun
  have h1 := he x y hx
  split at hrun
  · rename_i b hb
    rw [hb] at h1
    cases hrun
    generalize hv : ρ x = v at h1
    cases h1
    exact ⟨.bool !b, w, .inl (by simp [execOp, ho, hv, Op.unary]), ZH.same hr (.v _)⟩
  · split at hrun
    · rename_i u hu
      split at hrun
      · rename_i v hv
        cases hrun
        rw [hE] at hv
        have hrv := XN hv w
        refine ⟨v, w, .inl ?_, ZH.same hr (.of g v)⟩
        simp [execOp, ho, Um hu h1, hrv]
      · cases hrun
    · cases hrun
theorem sim_bi {b : Builtin} {c : Go.Call} {ys : List Opd} (ho : o.op = .call c) (hcal : c.callee = .builtin b) (hx : Zfs glob c.args.toList = some ys) (he : Xd g a ρ glob) (hr : R P top g h w) (call : Call) (E : Env) (hE : E.P = P)
    (hrun : Zpp b c.argTypes o.type (c.args.map fun | .const _ => true | _ => false) ys E call a h = .ok d h') : ∃ v w', X6 P ρ o w v w' ∧ ZH P top g h w d h' v w' := by
  simp only [Zpp] at hrun
  have h1 := he.evals hx
  split at hrun
  · rename_i vs hvs
    have hve := Zjk hvs h1
    split at hrun
    · rename_i v hv
      cases hrun
      rw [hE] at hv
      have hrv := XN hv w
      refine ⟨v, w, .inl ?_, ZH.same hr (.of g v)⟩
      have harr : c.args.map ρ = vs.toArray := Array.ext' (by simpa using hve)
      simp only [execOp, ho, resolve, hcal, invoke, Sem.run_bind, Sem.run_pure, Result.andThen_ok, harr]
      exact hrv
    · cases hrun
  · cases hrun
theorem Zpq {op : BinOp} {t : TypeId} {ox oy : Operand} {x y : D} {u v : Value} {d : D} (hq : Ul op x y = some d) (hx : VRel g x u) (hy : VRel g y v) (w : World) :
    ∃ r, (do eqGuard op t ox oy u v; binOp op t u v : Sem Value).run P w = .ok r w ∧ VRel g d r := by
  cases hx <;> simp only [Ul] at hq <;> try (cases hq; done)
  · cases hy <;> simp only at hq <;> try (cases hq; done)
    rename_i k a k' b
    cases op <;> simp only at hq <;> (first | (cases hq; done) | skip) <;> (
      by_cases hk : k = k'
      · subst hk
        simp only [decide_true, cond_true, Option.some.injEq] at hq
        subst hq
        first
          | exact ⟨_, by simp [eqGuard, binOp, Op.intArith, ← Zli], .int _ _⟩
          | (refine ⟨_, ?_, .v _⟩; simp [eqGuard, binOp, Op.intCmp]; done)
          | (refine ⟨_, ?_, .v _⟩; simp [eqGuard, binOp, Op.intCmp]; exact Bool.eq_iff_iff.2 (by simp))
      · simp [hk] at hq)
  · cases hy <;> simp only at hq <;> try (cases hq; done)
    rename_i s s'
    cases op <;> simp only at hq <;> (first | (cases hq; done) | skip)
    · cases hb : Nat.ble ((ZQ s).length + (ZQ s').length) 140737488355328 with
      | false => rw [hb] at hq; cases hq
      | true =>
        rw [hb] at hq
        simp only [cond_true, Option.some.injEq] at hq
        subst hq
        have h1 := Nat.le_of_ble_eq_true hb
        have e1 : (ZQ s).length = s.size := by simp [ZQ]
        have e2 : (ZQ s').length = s'.size := by simp [ZQ]
        rw [e1, e2] at h1
        have e3 : ZQ s ++ ZQ s' = ZQ (s ++ s') := by simp [ZQ]
        refine ⟨.string (s ++ s'), ?_, by rw [e3]; exact .str _⟩
        simp [eqGuard, binOp, Op.stringOp]
        omega
    · cases hq
      rw [Zde]
      refine ⟨.bool (decide (ZQ s = ZQ s')), ?_, .v _⟩
      have : (s.toList == s'.toList) = decide (ZQ s = ZQ s') := by
        rw [ByteArray.toList_eq, ByteArray.toList_eq, Bool.eq_iff_iff]; simp [Zd8, ByteArray.ext_iff]
      simp only [eqGuard, binOp, Op.stringOp, this]
      simp
    · cases hq
      rw [Zde]
      refine ⟨.bool (!decide (ZQ s = ZQ s')), ?_, .v _⟩
      have : (s.toList == s'.toList) = decide (ZQ s = ZQ s') := by
        rw [ByteArray.toList_eq, ByteArray.toList_eq, Bool.eq_iff_iff]; simp [Zd8, ByteArray.ext_iff]
      simp only [eqGuard, binOp, Op.stringOp, this]
      simp
end
end
end Go.Abs
namespace Go.Abs
noncomputable section
section
variable {P : Program} {top : Nat} {glob : Nat → Option (List D)} {g : G} {h h' : H} {w : World} {a : AAct} {ρ : Operand → Value} {o : Oper} {d : D}
theorem Zr1 {t : TypeId} {x y : D} {u v : Value} {b : Bool} (hq : Zol (P.underlying t) x y = some b) (hx : VRel g x u) (hy : VRel g y v) (w : World) (n : Nat) :
    (Op.equalIn (n + 1) t u v).run P w = .ok b w := by
  unfold Zol at hq
  generalize hu : P.underlying t = un at hq
  split at hq <;> (first | (cases hq; done) | skip)
  all_goals
    cases hq
    cases hx
    cases hy
    simp [Op.equalIn, run_underlying hu]
theorem Zxe {t : TypeId} {ox oy : Operand} {x y : D} {u v : Value} {b : Bool} (hq : Zol (P.underlying t) x y = some b) (hx : VRel g x u) (hy : VRel g y v) (w : World) :
    (do eqGuard .eql t ox oy u v; binOp .eql t u v : Sem Value).run P w = .ok (.bool b) w ∧ (do eqGuard .neq t ox oy u v; binOp .neq t u v : Sem Value).run P w = .ok (.bool !b) w := by
  have key : (Op.equal t u v).run P w = .ok b w := Zr1 hq hx hy w 9999
  unfold Zol at hq
  generalize hu : P.underlying t = un at hq
  split at hq <;> (first | (cases hq; done) | skip)
  all_goals
    cases hq
    cases hx
    cases hy
    constructor <;> simp [eqGuard, binOp, key]
theorem Z2n {op : BinOp} {t yt : TypeId} {x z : Operand} {y u : Opd} (ho : o.op = .binOp op t x z yt) (hx : ZI glob x = some y) (hz : ZI glob z = some u) (he : Xd g a ρ glob) (hr : R P top g h w) (call : Call) (E : Env) (hE : E.P = P)
    (hrun : Zke op t x z y u E call a h = .ok d h') : ∃ v w', X6 P ρ o w v w' ∧ ZH P top g h w d h' v w' := by
  simp only [Zke, Uy] at hrun
  split at hrun
  · rename_i e hb
    cases hrun
    unfold Zbs at hb
    have h1 := he x y hx
    have h2 := he z u hz
    have key : ∃ r, (do eqGuard op t x z (ρ x) (ρ z); binOp op t (ρ x) (ρ z) : Sem Value).run P w = .ok r w ∧ VRel g d r := by
      split at hb
      · rename_i e hq
        cases hb
        exact Zpq hq h1 h2 w
      · split at hb
        · rename_i p q hp hq'
          split at hb
          · rename_i v hv
            cases hb
            rw [hE] at hv
            rw [Um hp h1, Um hq' h2]
            exact ⟨v, XN hv w, .of g v⟩
          · cases hb
        · rw [hE] at hb
          cases hn : Zol (P.underlying t) (a.eval y) (a.eval u) with
          | none => rw [hn] at hb; cases op <;> cases hb
          | some b =>
            rw [hn] at hb
            have hk := Zxe (ox := x) (oy := z) hn h1 h2 w
            cases op <;> (first | (cases hb; done) | skip)
            · cases hb; exact ⟨.bool b, hk.1, .v _⟩
            · cases hb; exact ⟨.bool !b, hk.2, .v _⟩
    obtain ⟨r, hrr, hvr⟩ := key
    refine ⟨r, w, .inl ?_, ZH.same hr hvr⟩
    simp only [execOp, ho]
    rw [Sem.run_bind, hrr]
    rfl
  · cases hrun
theorem Zrs {t : TypeId} {ag : Bool} {n off : Nat} {cs : List D} {vs : Array Value} {d : D} (ha : Zcu P t = some ag) (hn : YE P t = some n) (hv : Zx g cs vs.toList) (hp : Zib ag n cs off = some d) (w : World) :
    ∃ v, (part t vs off).run P w = .ok v w ∧ VRel g d v := by
  obtain ⟨i, hi, his, hic, hsz⟩ := Yt hn
  have hag := Zbo ha
  unfold Zib at hp
  cases ag with
  | true =>
    simp only [cond_true] at hp
    cases hq : Nat.beq (List.take n (List.drop off cs)).length n with
    | false => rw [hq] at hp; cases hp
    | true =>
      rw [hq] at hp
      simp only [cond_true, Option.some.injEq] at hp
      subst hp
      refine ⟨.agg (vs.extract off (off + n)), by simp [part, hag, hsz], .agg' ?_⟩
      have := (hv.drop off).take n
      have he : (vs.extract off (off + n)).toList = (vs.toList.drop off).take n := by
        rw [Array.toList_extract, List.extract_eq_take_drop]; congr 1; omega
      rw [he]; exact this
  | false =>
    simp only [cond_false] at hp
    split at hp
    · rename_i e r hc
      cases hp
      have hce : cs[off]? = some d := by
        have : (cs.drop off)[0]? = some d := by rw [hc]; rfl
        rw [List.getElem?_drop] at this
        simpa using this
      obtain ⟨v, hv1, hv2⟩ := hv.some hce
      refine ⟨v, ?_, hv2⟩
      have : vs[off]? = some v := by simpa using hv1
      simp [part, hag, this]
    · cases hp
theorem Z2k {t : TypeId} {fs : Array Field} {f : Field} {i n : Nat} {ag : Bool} {x : Operand} {y : Opd} (ho : o.op = .field t x i) (hu : P.underlying t = some (.struct fs)) (hf : fs[i]? = some f) (ha : Zcu P f.type = some ag) (hn : YE P f.type = some n)
    (hx : ZI glob x = some y) (he : Xd g a ρ glob) (hr : R P top g h w) (call : Call) (E : Env) (hrun : Zcq ag f.offset n y E call a h = .ok d h') : ∃ v w', X6 P ρ o w v w' ∧ ZH P top g h w d h' v w' := by
  simp only [Zcq, Uy] at hrun
  have h1 := he x y hx
  split at hrun
  · rename_i cs hb
    rw [hb] at h1
    split at hrun
    · rename_i e hp
      cases hrun
      generalize hv : ρ x = v at h1
      cases h1 with
      | agg hl hpw =>
        rename_i us
        obtain ⟨r, hr1, hr2⟩ := Zrs (P := P) (vs := us) ha hn ⟨by simpa using hl, fun i d v hd hu => hpw i d v hd (by simpa using hu)⟩ hp w
        refine ⟨r, w, .inl ?_, ZH.same hr hr2⟩
        simp [execOp, ho, hv, Instr.field, run_underlying hu, hf, asAgg, hr1]
    · cases hrun
  · cases hrun
theorem Uo {i : D} {n k : Nat} (hi : VF i n = some k) {v : Value} (hv : VRel g i v) : ∃ kk, v = .int kk (k : Int) ∧ k < n := by
  unfold VF at hi
  split at hi
  · rename_i kk m
    cases hb : Nat.blt m n with
    | false => rw [hb] at hi; cases hi
    | true =>
      rw [hb] at hi
      simp only [cond_true, Option.some.injEq] at hi
      subst hi
      cases hv
      exact ⟨kk, rfl, by have : m + 1 ≤ n := by simpa [Nat.blt] using hb
                         omega⟩
  · cases hi
theorem Zy0 {t e : TypeId} {n sz : Nat} {ag : Bool} {x i : Operand} {y u : Opd} (ho : o.op = .index t x i) (hu : P.underlying t = some (.array n e)) (ha : Zcu P e = some ag) (hn : YE P e = some sz)
    (hx : ZI glob x = some y) (hi : ZI glob i = some u) (he : Xd g a ρ glob) (hr : R P top g h w) (call : Call) (E : Env) (hrun : Uk ag n sz y u E call a h = .ok d h') : ∃ v w', X6 P ρ o w v w' ∧ ZH P top g h w d h' v w' := by
  simp only [Uk, Uy] at hrun
  have h1 := he x y hx
  have h2 := he i u hi
  split at hrun
  · rename_i cs k hb hk
    rw [hb] at h1
    obtain ⟨kk, hkv, hkn⟩ := Uo hk h2
    split at hrun
    · rename_i e' hp
      cases hrun
      generalize hv : ρ x = v at h1
      cases h1 with
      | agg hl hpw =>
        rename_i us
        obtain ⟨r, hr1, hr2⟩ := Zrs (P := P) (vs := us) ha hn ⟨by simpa using hl, fun i d v hd hu => hpw i d v hd (by simpa using hu)⟩ hp w
        obtain ⟨ii, hii, his, hic, hsz⟩ := Yt hn
        refine ⟨r, w, .inl ?_, ZH.same hr hr2⟩
        simp [execOp, ho, hv, hkv, Instr.index, asIntOf, run_underlying hu, hkn, hsz, hr1]
    · cases hrun
  · cases hrun
theorem sim_fa {t : TypeId} {fs : Array Field} {f : Field} {i n : Nat} {x : Operand} {y : Opd} (ho : o.op = .fieldAddr t x i) (hu : P.underlying t = some (.struct fs)) (hf : fs[i]? = some f) (hn : YE P f.type = some n) (hn0 : n ≠ 0)
    (hx : ZI glob x = some y) (he : Xd g a ρ glob) (hr : R P top g h w) (call : Call) (E : Env) (hrun : Zhc f.offset y E call a h = .ok d h') : ∃ v w', X6 P ρ o w v w' ∧ ZH P top g h w d h' v w' := by
  simp only [Zhc] at hrun
  have h1 := he x y hx
  obtain ⟨ii, hii, his, hic, hsz⟩ := Yt hn
  split at hrun
  · rename_i l off hb
    rw [hb] at h1
    cases hrun
    generalize hv : ρ x = v at h1
    cases h1 with
    | ptr hbl =>
      rename_i b
      refine ⟨.pointer (some ⟨b, off + f.offset, none⟩), w, .inl ?_, ZH.same hr (.ptr hbl)⟩
      simp [execOp, ho, hv, Instr.fieldAt, Instr.sureAddr, run_underlying hu, hf, fieldPlace, hsz, hn0, YC]
  · rename_i cs hb
    rw [hb] at h1
    cases hrun
    generalize hv : ρ x = v at h1
    cases h1 with
    | ep hi =>
      rename_i b off
      refine ⟨.pointer (some ⟨b, off + f.offset, none⟩), w, .inl ?_, ZH.same hr (.ep fun i d hd => ?_)⟩
      · simp [execOp, ho, hv, Instr.fieldAt, Instr.sureAddr, run_underlying hu, hf, fieldPlace, hsz, hn0, YC]
      · rw [List.getElem?_drop] at hd
        rw [Nat.add_assoc]; exact hi _ d hd
  · cases hrun
theorem Z2j {t e : TypeId} {n sz : Nat} {x i : Operand} {y u : Opd} (ho : o.op = .indexAddr t x i) (hu : P.underlying t = some (.array n e)) (hn : YE P e = some sz)
    (hx : ZI glob x = some y) (hi : ZI glob i = some u) (he : Xd g a ρ glob) (hr : R P top g h w) (call : Call) (E : Env) (hrun : Zdn n sz y u E call a h = .ok d h') : ∃ v w', X6 P ρ o w v w' ∧ ZH P top g h w d h' v w' := by
  simp only [Zdn, Uy] at hrun
  have h1 := he x y hx
  have h2 := he i u hi
  obtain ⟨ii, hii, his, hic, hsz⟩ := Yt hn
  split at hrun
  · rename_i e' hp
    cases hrun
    unfold Zg0 at hp
    split at hp
    · rename_i k l off hk hb
      cases hp
      rw [hb] at h1
      obtain ⟨kk, hkv, hkn⟩ := Uo hk h2
      generalize hv : ρ x = v at h1
      cases h1 with
      | ptr hbl =>
        rename_i b
        refine ⟨.pointer (some ⟨b, off + k * sz, none⟩), w, .inl ?_, ZH.same hr (.ptr hbl)⟩
        simp [execOp, ho, hv, hkv, Instr.indexAt, Instr.sureAddr, asIntOf, run_underlying hu, hkn, hsz, YC]
    · rename_i k cs hk hb
      cases hp
      rw [hb] at h1
      obtain ⟨kk, hkv, hkn⟩ := Uo hk h2
      generalize hv : ρ x = v at h1
      cases h1 with
      | ep hi' =>
        rename_i b off
        refine ⟨.pointer (some ⟨b, off + k * sz, none⟩), w, .inl ?_, ZH.same hr (.ep fun i d hd => ?_)⟩
        · simp [execOp, ho, hv, hkv, Instr.indexAt, Instr.sureAddr, asIntOf, run_underlying hu, hkn, hsz, YC]
        · rw [List.getElem?_drop] at hd
          rw [Nat.add_assoc]; exact hi' _ d hd
    · cases hp
  · cases hrun
theorem Z2i {t e : TypeId} {sz : Nat} {x i : Operand} {y u : Opd} (ho : o.op = .indexAddr t x i) (hu : P.underlying t = some (.slice e)) (hn : YE P e = some sz)
    (hx : ZI glob x = some y) (hi : ZI glob i = some u) (he : Xd g a ρ glob) (hr : R P top g h w) (call : Call) (E : Env) (hrun : Zdm sz y u E call a h = .ok d h') : ∃ v w', X6 P ρ o w v w' ∧ ZH P top g h w d h' v w' := by
  simp only [Zdm, Uy] at hrun
  have h1 := he x y hx
  have h2 := he i u hi
  obtain ⟨ii, hii, his, hic, hsz⟩ := Yt hn
  split at hrun
  · rename_i e' hp
    cases hrun
    unfold Zcv at hp
    split at hp
    · rename_i id n cs hb
      split at hp
      · rename_i k hk
        split at hp
        · cases hp
        · rename_i c r hdr
          cases hp
          rw [hb] at h1
          obtain ⟨kk, hkv, hkn⟩ := Uo hk h2
          generalize hv : ρ x = v at h1
          cases h1 with
          | sl hcap hcs hid =>
            rename_i ad cap
            have hsp : ad.spot = none := by
              have : (cs.drop (k * sz))[0]? = some c := by rw [hdr]; rfl
              rw [List.getElem?_drop] at this
              exact (hcs _ _ this).1
            obtain ⟨bb, oo, sp⟩ := ad
            simp only at hsp
            subst hsp
            refine ⟨.pointer (some ⟨bb, oo + k * sz, none⟩), w, .inl ?_, ZH.same hr (.ep fun i d hd => ?_)⟩
            · simp [execOp, ho, hv, hkv, Instr.indexAt, Instr.sureAddr, asIntOf, run_underlying hu, hkn, hsz, YC]
            · rw [← hdr, List.getElem?_drop] at hd
              rw [Nat.add_assoc]; exact (hcs _ d hd).2
      · cases hp
    · rename_i l off n cap hb
      split at hp
      · rename_i k hk
        cases hp
        rw [hb] at h1
        obtain ⟨kk, hkv, hkn⟩ := Uo hk h2
        generalize hv : ρ x = v at h1
        cases h1 with
        | row hbl =>
          rename_i b
          refine ⟨.pointer (some ⟨b, off + k * sz, none⟩), w, .inl ?_, ZH.same hr (.ptr hbl)⟩
          simp [execOp, ho, hv, hkv, Instr.indexAt, Instr.sureAddr, asIntOf, run_underlying hu, hkn, hsz, YC]
      · cases hp
    · cases hp
  · cases hrun
end
end
end Go.Abs
namespace Go.Abs
noncomputable section
section
variable {P : Program} {top : Nat} {glob : Nat → Option (List D)} {g : G} {h h' : H} {w : World} {a : AAct} {ρ : Operand → Value} {o : Oper} {d : D}
theorem Xd.opt (he : Xd g a ρ glob) {x : Option Operand} {y : Option Opd} (hx : Zes glob x = some y) : (x = none ∧ y = none) ∨ ∃ p q, x = some p ∧ y = some q ∧ VRel g (a.eval q) (ρ p) := by
  cases x with
  | none => simp [Zes] at hx; exact .inl ⟨rfl, hx.symm⟩
  | some p =>
    simp only [Zes] at hx
    split at hx
    · rename_i q hq
      cases hx
      exact .inr ⟨p, q, rfl, rfl, he p q hq⟩
    · cases hx
theorem U4 {len cap l k : Nat} {isS : Bool} {lo hi : Option Operand} {lo' hi' : Option Opd} (he : Xd g a ρ glob) (hlo : Zes glob lo = some lo') (hhi : Zes glob hi = some hi')
    (hb : Xf len cap (lo'.map a.eval) (hi'.map a.eval) = some (l, k)) (w : World) : (Instr.sliceBounds isS len cap (lo.map ρ) (hi.map ρ) none).run P w = .ok (l, k, cap) w ∧ l ≤ k ∧ (hi = none → k = len) ∧ (hi ≠ none → k ≤ cap) := by
  unfold Xf at hb
  split at hb
  case h_2 => cases hb
  rename_i hh hhd
  have hcase : hi = none ∧ hh = len ∨ ∃ p kk, hi = some p ∧ ρ p = .int kk (hh : Int) ∧ hh ≤ cap := by
    rcases he.opt hhi with ⟨rfl, rfl⟩ | ⟨p, q, rfl, rfl, hv⟩
    · simp [Zxo] at hhd; exact .inl ⟨rfl, hhd.symm⟩
    · simp only [Option.map_some] at hhd
      unfold Zxo at hhd
      split at hhd
      · rename_i hq; cases hq
      · rename_i kk n hq
        cases hbb : Nat.ble n cap with
        | false => rw [hbb] at hhd; cases hhd
        | true =>
          rw [hbb] at hhd
          cases hhd
          simp only [Option.some.injEq] at hq
          rw [hq] at hv
          refine .inr ⟨p, kk, rfl, ?_, Nat.le_of_ble_eq_true hbb⟩
          generalize hr : ρ p = r at hv
          cases hv; rfl
      · cases hhd
  have hL : k = hh ∧ l ≤ hh ∧ (lo = none ∧ l = 0 ∨ ∃ p kk, lo = some p ∧ ρ p = .int kk (l : Int)) := by
    rcases he.opt hlo with ⟨rfl, rfl⟩ | ⟨p, q, rfl, rfl, hv⟩
    · simp [Z1y] at hb
      obtain ⟨rfl, rfl⟩ := hb
      exact ⟨rfl, Nat.zero_le _, .inl ⟨rfl, rfl⟩⟩
    · simp only [Option.map_some] at hb
      unfold Z1y at hb
      split at hb
      · rename_i hq; cases hq
      · rename_i kk n hq
        cases hbb : Nat.ble n hh with
        | false => rw [hbb] at hb; cases hb
        | true =>
          rw [hbb] at hb
          cases hb
          simp only [Option.some.injEq] at hq
          rw [hq] at hv
          refine ⟨rfl, Nat.le_of_ble_eq_true hbb, .inr ⟨p, kk, rfl, ?_⟩⟩
          generalize hr : ρ p = r at hv
          cases hv; rfl
      · cases hb
  obtain ⟨rfl, hle, hlo2⟩ := hL
  refine ⟨?_, hle, fun e => ?_, fun e => ?_⟩
  · rcases hcase with ⟨rfl, rfl⟩ | ⟨p, kk, rfl, hp, hcap⟩ <;> rcases hlo2 with ⟨rfl, rfl⟩ | ⟨p', kk', rfl, hp'⟩
    · simp [Instr.sliceBounds]
    · simp [Instr.sliceBounds, Instr.sliceBound, asIntOf, hp', hle]
    · simp [Instr.sliceBounds, Instr.sliceBound, asIntOf, hp, hcap]
    · simp [Instr.sliceBounds, Instr.sliceBound, asIntOf, hp, hp', hcap, hle]
  · rcases hcase with ⟨_, rfl⟩ | ⟨p, kk, rfl, _⟩
    · rfl
    · cases e
  · rcases hcase with ⟨rfl, _⟩ | ⟨p, kk, _, _, hcap⟩
    · exact absurd rfl e
    · exact hcap
theorem Zws {t : TypeId} {x : Operand} {y : Opd} {lo hi : Option Operand} {lo' hi' : Option Opd} (ho : o.op = .slice t x lo hi none) (hu : P.underlying t = some .string)
    (hx : ZI glob x = some y) (hlo : Zes glob lo = some lo') (hhi : Zes glob hi = some hi') (he : Xd g a ρ glob) (hr : R P top g h w) (call : Call) (E : Env) (hrun : Zbd y lo' hi' E call a h = .ok d h') : ∃ v w', X6 P ρ o w v w' ∧ ZH P top g h w d h' v w' := by
  simp only [Zbd] at hrun
  have h1 := he x y hx
  split at hrun
  · rename_i s hb
    rw [hb] at h1
    split at hrun
    · rename_i l k hbd
      cases hrun
      generalize hv : ρ x = v at h1
      cases h1 with
      | str s =>
        have hsz : (ZQ s).length = s.size := by simp [ZQ]
        rw [hsz] at hbd
        obtain ⟨hb1, hb2, hb3, hb4⟩ := U4 (P := P) (isS := false) he hlo hhi hbd w
        have he2 : ((ZQ s).drop l).take (k - l) = ZQ (s.extract l k) := by
          simp only [ZQ, ByteArray.data_extract, Array.toList_extract, List.extract_eq_take_drop, List.map_take, List.map_drop]
        refine ⟨.string (s.extract l k), w, .inl ?_, ZH.same hr (by rw [he2]; exact .str _)⟩
        simp [execOp, ho, hv, Instr.sliceAt, Instr.slice, run_underlying hu, hb1]
    · cases hrun
  · cases hrun
theorem Zys {t e : TypeId} {sz : Nat} {x : Operand} {y : Opd} {lo hi : Option Operand} {lo' hi' : Option Opd} (ho : o.op = .slice t x lo hi none) (hu : P.underlying t = some (.slice e)) (hn : YE P e = some sz)
    (hx : ZI glob x = some y) (hlo : Zes glob lo = some lo') (hhi : Zes glob hi = some hi') (he : Xd g a ρ glob) (hr : R P top g h w) (call : Call) (E : Env) (hrun : Ug sz y lo' hi' E call a h = .ok d h') : ∃ v w', X6 P ρ o w v w' ∧ ZH P top g h w d h' v w' := by
  simp only [Ug, Uy] at hrun
  have h1 := he x y hx
  obtain ⟨ii, hii, his, hic, hsz⟩ := Yt hn
  split at hrun
  · rename_i e' hp
    cases hrun
    unfold Zi4 at hp
    split at hp
    · rename_i hb
      rw [hb] at h1
      split at hp
      · rename_i lk hbd
        obtain ⟨l, k⟩ := lk
        cases hp
        generalize hv : ρ x = v at h1
        cases h1
        obtain ⟨hb1, hb2, hb3, hb4⟩ := U4 (P := P) (isS := true) he hlo hhi hbd w
        have hk : k = 0 := by
          by_cases hi0 : hi = none
          · exact hb3 hi0
          · have := hb4 hi0; omega
        have hl : l = 0 := by omega
        subst hk hl
        refine ⟨.slice none 0 0, w, .inl ?_, ZH.same hr (by rw [hb]; exact .v _)⟩
        simp [execOp, ho, hv, Instr.sliceAt, Instr.slice, run_underlying hu, hb1, hsz]
      · cases hp
    · rename_i id n cs hb
      rw [hb] at h1
      split at hp
      · rename_i l k hbd
        generalize hv : ρ x = v at h1
        cases h1 with
        | sl hcap hcs hid =>
          rename_i ad cap
          have hbd' : Xf n cap (lo'.map a.eval) (hi'.map a.eval) = some (l, k) := by
            unfold Xf at hbd ⊢
            have : ∀ hh, Zxo n n (hi'.map a.eval) = some hh → Zxo n cap (hi'.map a.eval) = some hh := by
              intro hh hq
              unfold Zxo at hq ⊢
              split at hq
              · exact hq
              · rename_i kk m hz
                cases hbb : Nat.ble m n with
                | false => rw [hbb] at hq; cases hq
                | true =>
                  rw [hbb] at hq
                  have : Nat.ble m cap = true := Nat.ble_eq_true_of_le (Nat.le_trans (Nat.le_of_ble_eq_true hbb) hcap)
                  simp only [this]; exact hq
              · cases hq
            cases hq : Zxo n n (hi'.map a.eval) with
            | none => rw [hq] at hbd; cases hbd
            | some hh => rw [hq] at hbd; rw [this hh hq]; exact hbd
          obtain ⟨hb1, hb2, hb3, hb4⟩ := U4 (P := P) (isS := true) he hlo hhi hbd' w
          obtain ⟨_, _, hb5, hb6⟩ := U4 (P := P) (isS := true) he hlo hhi hbd w
          have hkn : k ≤ n := by
            by_cases hi0 : hi = none
            · exact Nat.le_of_eq (hb5 hi0)
            · exact hb6 hi0
          have hres : (execOp ρ o).run P w = .ok (.value (.slice (if cap = l then some ad else some (ad.add (l * sz))) (k - l) (cap - l))) w := by
            simp only [execOp, ho, hv, Instr.sliceAt, Instr.slice, Sem.run_bind, run_underlying hu, Result.andThen_ok, Option.map_none, hb1, hsz, Option.map_some]
            rfl
          have hadd : (if cap = l then some ad else some (ad.add (l * sz))) = some (if cap = l then ad else ad.add (l * sz)) := by split <;> rfl
          rw [hadd] at hres
          cases hq : Nat.beq l 0 && Nat.beq k n with
          | true =>
            rw [hq] at hp
            simp only [cond_true, Option.some.injEq] at hp
            rw [Bool.and_eq_true] at hq
            have e1 := Nat.eq_of_beq_eq_true hq.1
            have e2 := Nat.eq_of_beq_eq_true hq.2
            subst e1 e2
            refine ⟨_, w, .inl hres, ZH.same hr ?_⟩
            rw [← hp]
            have : (if cap = 0 then ad else ad.add (0 * sz)) = ad := by split <;> simp [Addr.add]
            rw [this, hb]
            exact .sl hcap hcs hid
          | false =>
            rw [hq] at hp
            simp only [cond_false, Option.some.injEq] at hp
            refine ⟨_, w, .inl hres, ZH.same hr ?_⟩
            rw [← hp]
            refine .sl (by omega) (fun i dd hdd => ?_) (fun h0 => absurd rfl h0)
            have hilt : i < (k - l) * sz := by
              have := (List.getElem?_eq_some_iff.1 hdd).1
              simp at this; omega
            rw [List.getElem?_take_of_lt hilt, List.getElem?_drop] at hdd
            have hc := hcs _ dd hdd
            have hlc : cap ≠ l := by intro e; have : k - l = 0 := by omega
                                     rw [this] at hilt; simp at hilt
            rw [if_neg hlc]
            obtain ⟨bb, oo, sp⟩ := ad
            obtain ⟨rfl, hi⟩ := hc
            rw [YC]
            exact ⟨rfl, by simpa [Nat.add_assoc] using hi⟩
      · cases hp
    · rename_i bb off len cap hb
      rw [hb] at h1
      split at hp
      · rename_i l k hbd
        cases hq : Nat.beq l cap with
        | true => rw [hq] at hp; cases hp
        | false =>
          rw [hq] at hp
          simp only [cond_false, Option.some.injEq] at hp
          subst hp
          generalize hv : ρ x = v at h1
          cases h1 with
          | row hbl =>
            rename_i b
            obtain ⟨hb1, hb2, hb3, hb4⟩ := U4 (P := P) (isS := true) he hlo hhi hbd w
            have hne : ¬ cap = l := fun e => by subst e; simp at hq
            refine ⟨.slice (some ⟨b, off + l * sz, none⟩) (k - l) (cap - l), w, .inl ?_, ZH.same hr (.row hbl)⟩
            simp [execOp, ho, hv, Instr.sliceAt, Instr.slice, run_underlying hu, hb1, hsz, hne, YC]
      · cases hp
    · cases hp
  · cases hrun
theorem Zwt {t e : TypeId} {n sz : Nat} {x : Operand} {y : Opd} {lo hi : Option Operand} {lo' hi' : Option Opd} (ho : o.op = .slice t x lo hi none) (hu : P.underlying t = some (.array n e)) (hn : YE P e = some sz)
    (hx : ZI glob x = some y) (hlo : Zes glob lo = some lo') (hhi : Zes glob hi = some hi') (he : Xd g a ρ glob) (hr : R P top g h w) (call : Call) (E : Env) (hrun : Zbe n sz y lo' hi' E call a h = .ok d h') : ∃ v w', X6 P ρ o w v w' ∧ ZH P top g h w d h' v w' := by
  simp only [Zbe, Uy] at hrun
  have h1 := he x y hx
  obtain ⟨ii, hii, his, hic, hsz⟩ := Yt hn
  split at hrun
  · rename_i e' hp
    cases hrun
    unfold Zn1 at hp
    split at hp
    · rename_i bb off hb
      rw [hb] at h1
      split at hp
      · rename_i l k hbd
        cases hq : Nat.beq l n with
        | true => rw [hq] at hp; cases hp
        | false =>
          rw [hq] at hp
          simp only [cond_false, Option.some.injEq] at hp
          subst hp
          generalize hv : ρ x = v at h1
          cases h1 with
          | ptr hbl =>
            rename_i b
            obtain ⟨hb1, hb2, hb3, hb4⟩ := U4 (P := P) (isS := false) he hlo hhi hbd w
            have hne : ¬ n = l := fun e => by subst e; simp at hq
            refine ⟨.slice (some ⟨b, off + l * sz, none⟩) (k - l) (n - l), w, .inl ?_, ZH.same hr (.row hbl)⟩
            simp [execOp, ho, hv, Instr.sliceAt, Instr.sureAddr, run_underlying hu, hb1, hsz, hne, YC]
      · cases hp
    · rename_i cs hb
      rw [hb] at h1
      split at hp
      · rename_i l k hbd
        cases hq : Nat.beq l n with
        | true => rw [hq] at hp; cases hp
        | false =>
          rw [hq] at hp
          simp only [cond_false, Option.some.injEq] at hp
          subst hp
          generalize hv : ρ x = v at h1
          cases h1 with
          | ep hi' =>
            rename_i b off
            obtain ⟨hb1, hb2, hb3, hb4⟩ := U4 (P := P) (isS := false) he hlo hhi hbd w
            have hne : ¬ n = l := fun e => by subst e; simp at hq
            have hkn : k ≤ n := by
              by_cases hi0 : hi = none
              · exact Nat.le_of_eq (hb3 hi0)
              · exact hb4 hi0
            refine ⟨.slice (some ⟨b, off + l * sz, none⟩) (k - l) (n - l), w, .inl ?_, ZH.same hr (.sl (by omega) (fun i dd hdd => ⟨rfl, ?_⟩) (fun h0 => absurd rfl h0))⟩
            · simp [execOp, ho, hv, Instr.sliceAt, Instr.sureAddr, run_underlying hu, hb1, hsz, hne, YC]
            · have hilt : i < (k - l) * sz := by
                have := (List.getElem?_eq_some_iff.1 hdd).1
                simp at this; omega
              rw [List.getElem?_take_of_lt hilt, List.getElem?_drop] at hdd
              have := hi' _ dd hdd
              simpa [Nat.add_assoc] using this
      · cases hp
    · cases hp
  · cases hrun
theorem Zyz {t : TypeId} {x i : Operand} {y u : Opd} (ho : o.op = .index t x i) (hu : P.underlying t = some .string)
    (hx : ZI glob x = some y) (hi : ZI glob i = some u) (he : Xd g a ρ glob) (hr : R P top g h w) (call : Call) (E : Env) (hrun : Uj y u E call a h = .ok d h') : ∃ v w', X6 P ρ o w v w' ∧ ZH P top g h w d h' v w' := by
  simp only [Uj] at hrun
  have h1 := he x y hx
  have h2 := he i u hi
  split at hrun
  · rename_i s kk n hb hk
    rw [hb] at h1
    rw [hk] at h2
    split at hrun
    · rename_i b r hdr
      cases hrun
      generalize hv : ρ x = v at h1
      generalize hv2 : ρ i = v2 at h2
      cases h2
      cases h1 with
      | str s =>
        have hq : (ZQ s)[n]? = some b := by
          have : ((ZQ s).drop n)[0]? = some b := by rw [hdr]; rfl
          rw [List.getElem?_drop] at this
          simpa using this
        simp only [ZQ, List.getElem?_map] at hq
        cases hs : s.data.toList[n]? with
        | none => rw [hs] at hq; cases hq
        | some c =>
          rw [hs] at hq
          simp at hq
          subst hq
          have hlt : n < s.size := by
            have := (List.getElem?_eq_some_iff.1 hs).1
            simpa using this
          have hc : s[n]? = some c := by
            have h3 : s.data[n]? = some c := by simpa using hs
            rw [getElem?_pos s n hlt]
            have h4 : n < s.data.size := hlt
            rw [getElem?_pos s.data n h4] at h3
            exact h3
          refine ⟨.int .u8 c.toNat, w, .inl ?_, ZH.same hr (.int _ _)⟩
          simp [execOp, ho, hv, hv2, Instr.index, asIntOf, run_underlying hu, hc]
    · cases hrun
  · cases hrun
end
end
end Go.Abs
