/- Each operation, in a world and on plain data: those that make, read and write cells. -/
import Derived.Test.YthifolidfjpdkaaGreatDoorNdRun
import Derived.Test.YthifolidfjpdkaaGreatDoorNdRel
import Derived.IntWalk
import Derived.Lib.SmallJoins
import Derived.Lib.ConvBytes
import Derived.Laws.BytesString
set_option linter.unusedVariables false
set_option linter.unusedSimpArgs false
namespace Go.Abs
noncomputable section
def ZB (P : Program) (top : Nat) (g : G) (h : H) (w : World) (d : D) (h' : H) (v : Value) (w' : World) : Prop := ∃ g',Ext g h w g' h' w' ∧ R P top g' h' w' ∧ VRel g' d v
theorem ZB.same {P : Program} {top : Nat} {g : G} {h : H} {w : World} (hr : R P top g h w) {d : D} {v : Value} (hv : VRel g d v) : ZB P top g h w d h v w := ⟨g,.refl g h w,hr,hv⟩
theorem ZB.world {P : Program} {top : Nat} {g : G} {h : H} {w w' : World} (hr : R P top g h w) (hh : w'.heap = w.heap) (ho : w'.os = w.os) (ht : w'.tape = w.tape) (hp : w'.output = w.output) {d : D} {v : Value} (hv : VRel g d v) : ZB P top g h w d h v w' :=
  ⟨g,.world hh ho ht hp,hr.world hh,hv⟩
def Xx (P : Program) (ρ : Operand → Value) (o : Oper) (w : World) (v : Value) (w' : World) : Prop :=
  (execOp ρ o).run P w = .ok (.value v) w' ∨ ((execOp ρ o).run P w = .ok .skip w' ∧ v = undef)
def We (g : G) (a : AAct) (ρ : Operand → Value) (glob : Nat → Option (List D)) : Prop := ∀ x y,ZC glob x = some y → VRel g (a.eval y) (ρ x)
section
variable {P : Program} {top : Nat} {glob : Nat → Option (List D)} {g : G} {h h' : H} {w : World} {a : AAct} {ρ : Operand → Value} {o : Oper} {d : D}
theorem Vk {t : TypeId} {z : D} (hz : Zak P t = some z) : ∃ i zv,P.info? t = some i ∧ i.zero = some zv ∧ z = .of zv ∧ ∀ w,(zeroValue t).run P w = .ok zv w := by
  unfold Zak at hz
  split at hz
  · rename_i i hi
    split at hz
    · rename_i zv hzv
      simp at hz
      exact ⟨i,zv,hi,hzv,hz.symm,fun w => by simp [zeroValue,typeInfo,hi,hzv]⟩
    · cases hz
  · cases hz
theorem YD {t : TypeId} {n : Nat} (hz : Xd P t = some n) : ∃ i,P.info? t = some i ∧ i.size = n ∧ P.cellsOf t = n ∧ ∀ w,(sizeOf t).run P w = .ok n w := by
  unfold Xd at hz
  cases hi : P.info? t with
  | none => simp [hi] at hz
  | some i => simp [hi] at hz; exact ⟨i,rfl,hz,by simp [Program.cellsOf,hi,hz],fun w => by simp [sizeOf,typeInfo,hi,hz]⟩
theorem Zmr {t : TypeId} {n : Nat} (hz : Zl2 P t = some n) : ∃ i,P.info? t = some i ∧ i.bytes = n := by
  unfold Zl2 at hz
  cases hi : P.info? t with
  | none => simp [hi] at hz
  | some i => simp [hi] at hz; exact ⟨i,rfl,hz⟩
theorem Zcl {t : TypeId} {b : Bool} (hz : Zec P t = some b) : ∀ w,(isAgg t).run P w = .ok b w := by
  intro w
  unfold Zec at hz
  unfold isAgg
  split at hz
  · rename_i u; simp at hz; subst hz; simp [run_underlying u]
  · rename_i u; simp at hz; subst hz; simp [run_underlying u]
  · rename_i de hn1 hn2 u
    simp at hz; subst hz
    simp only [Sem.run_bind,run_underlying u,Result.andThen_ok]
    cases de <;> first | rfl | exact absurd rfl (hn1 _) | exact absurd rfl (hn2 _ _) | simp_all
  · cases hz
theorem We.evals (he : We g a ρ glob) : ∀ {xs : List Operand} {ys : List Opd},Zg9 glob xs = some ys → Zk g (a.evals ys) (xs.map ρ)
  | [],ys,h => by simp [Zg9] at h; subst h; exact .nil g
  | x :: r,ys,h => by
    simp only [Zg9] at h
    split at h
    · rename_i y l h1 h2
      simp at h; subst h
      exact .cons (he x y h1) (We.evals he h2)
    · simp at h
theorem Z68 {t : TypeId} {x : Operand} {y : Opd} (ho : o.op = .box t x) (hx : ZC glob x = some y) (he : We g a ρ glob) (hr : R P top g h w) (htop : h'.next ≤ top) (call : Call) (E : Env)
    (hrun : Zj6 t y E call a h = .ok d h') : ∃ v w',Xx P ρ o w v w' ∧ ZB P top g h w d h' v w' := by
  have hl : Lies g (.cells t (a.eval y).cells) (.cells (ρ x).cells t (0,0)) := .cells (he x y hx).cells
  simp only [Zj6,H.new] at hrun
  cases hrun
  obtain ⟨g',hE,hR,hb⟩ := hr.new htop hl
  refine ⟨.pointer (some ⟨w.heap.size,0,none⟩),w.alloc (.cells (ρ x).cells t (0,0)),.inl ?_,g',hE,hR,.ptr hb⟩
  simp [execOp,ho,Instr.box,newVar,newRow]
theorem Z0b {t : TypeId} {z : D} (ho : o.op = .alloc t) (hz : Zak P t = some z) (hr : R P top g h w) (htop : h'.next ≤ top) (call : Call) (E : Env)
    (hrun : Zdo t z.cells E call a h = .ok d h') : ∃ v w',Xx P ρ o w v w' ∧ ZB P top g h w d h' v w' := by
  obtain ⟨i,zv,hi,hzv,rfl,hzr⟩ := Vk hz
  have hl : Lies g (.cells t (D.of zv).cells) (.cells zv.cells t (0,0)) := .cells (VRel.of g zv).cells
  simp only [Zdo,H.new] at hrun
  cases hrun
  obtain ⟨g',hE,hR,hb⟩ := hr.new htop hl
  refine ⟨.pointer (some ⟨w.heap.size,0,none⟩),w.alloc (.cells zv.cells t (0,0)),.inl ?_,g',hE,hR,.ptr hb⟩
  simp [execOp,ho,Instr.alloc,hzr,newVar,newRow]
theorem sim_ld {t : TypeId} {x : Operand} {y : Opd} {n : Nat} (ho : o.op = .load t x) (hx : ZC glob x = some y) (hn : Xd P t = some n) (ha : Zec P t = some true) (he : We g a ρ glob) (hr : R P top g h w) (call : Call) (E : Env)
    (hrun : Zhj n y E call a h = .ok d h') : ∃ v w',Xx P ρ o w v w' ∧ ZB P top g h w d h' v w' := by
  simp only [Zhj] at hrun
  split at hrun
  · rename_i cs hc
    cases hrun
    obtain ⟨b,off,vs,hv,hvs,hlen,hcell⟩ := WF hr hc (he x y hx)
    obtain ⟨i,hi,his,hic,hsz⟩ := YD hn
    have hag := Zcl ha
    have hl : (loadCells ⟨b,off,none⟩ vs.length).run P w = .ok vs.toArray w := run_loadCells_list (P := P) w ⟨b,off,none⟩ vs (fun j v hj => by rw [Xb]; exact hcell j v hj)
    rw [hlen] at hl
    refine ⟨.agg vs.toArray,w,.inl ?_,ZB.same hr (.agg' (by simpa using hvs))⟩
    simp [execOp,ho,hv,Instr.loadAt,Instr.sureAddr,loadVar,hag,hsz,hl]
  · cases hrun
theorem Z63 {t : TypeId} {x : Operand} {y : Opd} (ho : o.op = .load t x) (hx : ZC glob x = some y) (ha : Zec P t = some false) (he : We g a ρ glob) (hr : R P top g h w) (call : Call) (E : Env)
    (hrun : Zhk y E call a h = .ok d h') : ∃ v w',Xx P ρ o w v w' ∧ ZB P top g h w d h' v w' := by
  simp only [Zhk] at hrun
  split at hrun
  · rename_i c hc
    cases hrun
    obtain ⟨b,off,vs,hv,hvs,hlen,hcell⟩ := WF hr hc (he x y hx)
    have hag := Zcl ha
    obtain ⟨v,hv0,hvr⟩ := hvs.some (i := 0) rfl
    have h0 := hcell 0 v hv0
    refine ⟨v,w,.inl ?_,ZB.same hr hvr⟩
    simp [execOp,ho,hv,Instr.loadAt,Instr.sureAddr,loadVar,hag,load,Sem.run,show w.cell? ⟨b,off,none⟩ = some v from h0]
  · cases hrun
theorem Zjh {cs xs r : List D} {off : Nat} (hp : patch cs off xs = some r) : off + xs.length ≤ cs.length ∧ r = cs.take off ++ xs ++ cs.drop (off + xs.length) := by
  unfold patch at hp
  cases hb : Nat.ble (off + xs.length) cs.length with
  | false => rw [hb] at hp; cases hp
  | true => rw [hb] at hp; simp at hp; exact ⟨Nat.le_of_ble_eq_true hb,by simp [← hp]⟩
theorem Zk.patch {g : G} {cs xs : List D} {vs us : List Value} (h : Zk g cs vs) (k : Zk g xs us) (off : Nat) :
    Zk g (cs.take off ++ xs ++ cs.drop (off + xs.length)) (vs.take off ++ us ++ vs.drop (off + us.length)) := by
  rw [← k.1]
  exact ((h.take off).append k).append (h.drop _)
theorem Zz2 {P : Program} {top : Nat} {g : G} {h h' : H} {w : World} (hr : R P top g h w) {n : Nat} {x y : D} {u v : Value} (hs : Zjb h n x y = some h') (hx : VRel g x u) (hy : VRel g y v) {t : TypeId} (hn : Xd P t = some n) :
    ∃ b off w',u = .pointer (some ⟨b,off,none⟩) ∧ (storeVar t ⟨b,off,none⟩ v).run P w = .ok () w' ∧ Ext g h w g h' w' ∧ R P top g h' w' := by
  cases x <;> simp only [Zjb] at hs <;> try (simp at hs; done)
  rename_i l off
  cases hx with
  | ptr hb =>
    rename_i b
    split at hs
    · rename_i ty cs hm
      cases hc : Nat.beq y.cells.length n && Y4 y.cells with
      | false => rw [hc] at hs; cases hs
      | true =>
        rw [hc] at hs
        simp only [cond_true] at hs
        rw [Bool.and_eq_true] at hc
        have hlen := Nat.eq_of_beq_eq_true hc.1
        split at hs
        · rename_i r hp
          simp at hs
          subst hs
          obtain ⟨hle,rfl⟩ := Zjh hp
          obtain ⟨b',ob,h1,h2,h3⟩ := hr.obj l _ hm (by simp)
          rw [hb] at h1
          cases h1
          cases h3 with
          | cells hv =>
            rename_i c
            obtain ⟨i,hi,his,hic,hsz⟩ := YD hn
            have hyv := hy.cells
            have hone := hyv.one hc.2
            have hcl : cs.length = c.size := by simpa using hv.1
            have hul : v.cells.toList.length = n := by rw [← hyv.1]; exact hlen
            have hrun := run_storeCells_at P b off ty v.cells.toList 0 c w h2 (by rw [Nat.add_zero,← hyv.1,← hcl]; exact hle) hone
            rw [Nat.add_zero] at hrun
            refine ⟨b,off,w.setRow b (c.toList.take off ++ v.cells.toList ++ c.toList.drop (off + v.cells.toList.length)).toArray,rfl, ?_, ?_⟩
            · have : v.cells.size = n := by simpa using hul
              simp [storeVar,hsz,this,hrun]
            · refine hr.put (o := .cells ty cs) hm (by simp) hb ?_ (by simp) (setRow_heap w b c _ ty _ h2) (.cells ?_)
              · exact ⟨rfl,rfl,rfl,by simp,fun k hk hkb => setRow_other w b k _ (fun e => hkb (by rw [e]))⟩
              · have := hv.patch hyv off
                simpa using this
        · cases hs
    · cases hs
theorem sim_st {t : TypeId} {x z : Operand} {y u : Opd} {n : Nat} (ho : o.op = .store t x z) (hx : ZC glob x = some y) (hz : ZC glob z = some u) (hn : Xd P t = some n) (he : We g a ρ glob) (hr : R P top g h w) (call : Call) (E : Env)
    (hrun : Zpx n y u E call a h = .ok d h') : ∃ v w',Xx P ρ o w v w' ∧ ZB P top g h w d h' v w' := by
  simp only [Zpx] at hrun
  split at hrun
  · rename_i h2 hs
    cases hrun
    obtain ⟨b,off,w',hv,hst,hE,hR⟩ := Zz2 hr hs (he x y hx) (he z u hz) hn
    refine ⟨undef,w',.inr ⟨?_,rfl⟩,g,hE,hR,.undef g⟩
    simp [execOp,ho,hv,Instr.storeAt,Instr.sureAddr,hst]
  · cases hrun
end
end
end Go.Abs
namespace Go.Abs
noncomputable section
section
variable {P : Program} {top : Nat} {glob : Nat → Option (List D)} {g : G} {h h' : H} {w : World} {a : AAct} {ρ : Operand → Value} {o : Oper} {d : D}
theorem Zni (k : IntKind) (n : Int) : Zg1 k n = k.wrap n := by
  unfold Zg1
  cases hi : Z4t k n with
  | false => rfl
  | true =>
    simp only [cond_true]
    cases k <;> simp only [Z4t,Bool.and_eq_true,decide_eq_true_eq] at hi
    · exact (IntWalk.i8_in n hi).symm
    · exact (IntWalk.i16_in n hi).symm
    · exact (IntWalk.i32_in n hi).symm
    · exact (IntWalk.i64_in n hi).symm
    · exact (IntWalk.u8_in n hi).symm
    · exact (IntWalk.u16_in n hi).symm
    · exact (IntWalk.u32_in n hi).symm
    · exact (IntWalk.u64_in n hi).symm
theorem Ze4 : ∀ (a b : List Nat),UQ a b = decide (a = b)
  | [],[] => rfl
  | [],b :: y => by simp [UQ]
  | a :: x,[] => by simp [UQ]
  | a :: x,b :: y => by
    simp only [UQ,Ze4 x y]
    by_cases h : a = b
    · subst h; simp
    · have : Nat.beq a b = false := by cases hb : Nat.beq a b with
        | false => rfl
        | true => exact absurd (Nat.eq_of_beq_eq_true hb) h
      simp [this,h]
theorem Zfm {s t : ByteArray} : ZE s = ZE t ↔ s = t := by
  constructor
  · intro h; rw [← Zk0 s,← Zk0 t,h]
  · rintro rfl; rfl
theorem Z2p {x : Operand} {y : Opd} (ho : o.op = .move x ∨ o.op = .assign x) (hx : ZC glob x = some y) (he : We g a ρ glob) (hr : R P top g h w) (call : Call) (E : Env)
    (hrun : Zsc y E call a h = .ok d h') : ∃ v w',Xx P ρ o w v w' ∧ ZB P top g h w d h' v w' := by
  simp only [Zsc] at hrun
  cases hrun
  exact ⟨ρ x,w,.inl (by rcases ho with ho | ho <;> simp [execOp,ho]),ZB.same hr (he x y hx)⟩
theorem Z2o {c x z : Operand} {c' y u : Opd} (ho : o.op = .pick c x z) (hc : ZC glob c = some c') (hx : ZC glob x = some y) (hz : ZC glob z = some u) (he : We g a ρ glob) (hr : R P top g h w) (call : Call) (E : Env)
    (hrun : Zge c' y u E call a h = .ok d h') : ∃ v w',Xx P ρ o w v w' ∧ ZB P top g h w d h' v w' := by
  simp only [Zge] at hrun
  have h1 := he c c' hc
  split at hrun
  · rename_i b hb
    rw [hb] at h1
    cases hrun
    have hcv : ρ c = .bool b := by
      generalize hv : ρ c = v at h1
      cases h1; rfl
    refine ⟨if b then ρ x else ρ z,w,.inl (by simp [execOp,ho,hcv,asBool]),ZB.same hr ?_⟩
    cases b
    · exact he z u hz
    · exact he x y hx
  · cases hrun
theorem Zr5 {x : Operand} {y : Opd} (ho : o.op = .nilCheck x) (hx : ZC glob x = some y) (he : We g a ρ glob) (hr : R P top g h w) (call : Call) (E : Env)
    (hrun : Xs y E call a h = .ok d h') : ∃ v w',Xx P ρ o w v w' ∧ ZB P top g h w d h' v w' := by
  simp only [Xs] at hrun
  have h1 := he x y hx
  split at hrun <;> (first | (cases hrun; done) | skip)
  all_goals
    rename_i hb
    rw [hb] at h1
    cases hrun
    refine ⟨ρ x,w,.inl ?_,ZB.same hr h1⟩
    generalize hv : ρ x = v at h1
    cases h1 <;> simp [execOp,ho,hv]
theorem Z0a {t : TypeId} {x : Operand} {y : Opd} {u : TypeDesc} (ho : o.op = .makeInterface t x) (hu : P.underlying t = some u) (hni : ∀ ms,u ≠ .interface ms) (hx : ZC glob x = some y) (he : We g a ρ glob) (hr : R P top g h w) (call : Call) (E : Env)
    (hrun : U5 t y E call a h = .ok d h') : ∃ v w',Xx P ρ o w v w' ∧ ZB P top g h w d h' v w' := by
  simp only [U5] at hrun
  cases hrun
  refine ⟨.iface t (ρ x),w,.inl ?_,ZB.same hr (.iface (he x y hx))⟩
  simp only [execOp,ho,Instr.makeInterface,Sem.run_bind,run_underlying hu,Result.andThen_ok]
  cases u <;> first | exact absurd rfl (hni _) | rfl
theorem Z61 {fn : Fn} {xs zs : Array Operand} {ys us : List Opd} (ho : o.op = .makeFunc fn xs zs) (hx : Zg9 glob xs.toList = some ys) (hz : Zg9 glob zs.toList = some us) (he : We g a ρ glob) (hr : R P top g h w) (call : Call) (E : Env)
    (hrun : Zi0 fn ys us E call a h = .ok d h') : ∃ v w',Xx P ρ o w v w' ∧ ZB P top g h w d h' v w' := by
  simp only [Zi0] at hrun
  cases hrun
  have h1 := he.evals hx
  have h2 := he.evals hz
  refine ⟨.func fn (xs.map ρ) (zs.map ρ),w,.inl (by simp [execOp,ho,Instr.makeFunc]),ZB.same hr (.func (by simpa using h1.1) (fun i d v hd hv => h1.2 i d v hd (by simpa using hv)) (by simpa using h2.1) (fun i d v hd hv => h2.2 i d v hd (by simpa using hv)))⟩
theorem Zz8 {t : TypeId} (ho : o.op = .makeMap t none) (hr : R P top g h w) (htop : h'.next ≤ top) (call : Call) (E : Env)
    (hrun : Zdn E call a h = .ok d h') : ∃ v w',Xx P ρ o w v w' ∧ ZB P top g h w d h' v w' := by
  have hl : Lies g (.map []) (.map #[] 0) := .map (by simp) (fun i k d e h => by simp at h)
  simp only [Zdn,H.new] at hrun
  cases hrun
  obtain ⟨g',hE,hR,hb⟩ := hr.new htop hl
  exact ⟨.map (some w.heap.size),w.alloc (.map #[] 0),.inl (by simp [execOp,ho,Instr.makeMap]),g',hE,hR,.map hb⟩
theorem Z67 {i : Nat} {x : Operand} {y : Opd} (ho : o.op = .extract x i) (hx : ZC glob x = some y) (he : We g a ρ glob) (hr : R P top g h w) (call : Call) (E : Env)
    (hrun : Zfd i y E call a h = .ok d h') : ∃ v w',Xx P ρ o w v w' ∧ ZB P top g h w d h' v w' := by
  simp only [Zfd] at hrun
  have h1 := he x y hx
  split at hrun
  · rename_i ds hb
    rw [hb] at h1
    cases hq : ds[i]? with
    | none => rw [hq] at hrun; cases hrun
    | some e =>
      rw [hq] at hrun
      cases hrun
      generalize hv : ρ x = v at h1
      cases h1 with
      | tup hl hp =>
        rename_i cs
        have hi : i < cs.size := by rw [← hl]; exact (List.getElem?_eq_some_iff.1 hq).1
        refine ⟨cs[i],w,.inl ?_,ZB.same hr (hp i _ _ hq (Array.getElem?_eq_getElem hi))⟩
        simp [execOp,ho,hv,Instr.extract,hi]
  · cases hrun
theorem Z2x {s t : TypeId} {k j : IntKind} {x : Operand} {y : Opd} (ho : o.op = .convert s t x) (hs : P.underlying s = some (.int j)) (ht : P.underlying t = some (.int k)) (hx : ZC glob x = some y) (he : We g a ρ glob) (hr : R P top g h w) (call : Call) (E : Env)
    (hrun : Zgh k y E call a h = .ok d h') : ∃ v w',Xx P ρ o w v w' ∧ ZB P top g h w d h' v w' := by
  simp only [Zgh] at hrun
  have h1 := he x y hx
  split at hrun
  · rename_i kk n hb
    rw [hb] at h1
    cases hrun
    generalize hv : ρ x = v at h1
    cases h1
    refine ⟨.int k (k.wrap n),w,.inl ?_,ZB.same hr (by rw [Zni]; exact .int _ _)⟩
    simp [execOp,ho,hv,convert,run_underlying hs,run_underlying ht,Conv.intToInt]
  · cases hrun
theorem Z60 {s t : TypeId} {x : Operand} {y : Opd} (ho : o.op = .convert s t x) (hs : P.underlying s = some .string) (ht : P.underlying t = some .string) (hx : ZC glob x = some y) (he : We g a ρ glob) (hr : R P top g h w) (call : Call) (E : Env)
    (hrun : Ziz y E call a h = .ok d h') : ∃ v w',Xx P ρ o w v w' ∧ ZB P top g h w d h' v w' := by
  simp only [Ziz] at hrun
  have h1 := he x y hx
  split at hrun
  · rename_i l hb
    rw [hb] at h1
    cases hrun
    generalize hv : ρ x = v at h1
    cases h1 with
    | str s => exact ⟨.string s,w,.inl (by simp [execOp,ho,hv,convert,run_underlying hs,run_underlying ht]),ZB.same hr (.str s)⟩
  · cases hrun
theorem Z2w {s t : TypeId} {x : Operand} {y : Opd} (ho : o.op = .convert s t x) (hx : ZC glob x = some y) (he : We g a ρ glob) (hr : R P top g h w) (call : Call) (E : Env) (hE : E.P = P)
    (hrun : Zgg s t y E call a h = .ok d h') : ∃ v w',Xx P ρ o w v w' ∧ ZB P top g h w d h' v w' := by
  simp only [Zgg] at hrun
  have h1 := he x y hx
  split at hrun
  · rename_i u hu
    split at hrun
    · rename_i v hv
      cases hrun
      rw [hE] at hv
      have hrv := Wr hv w
      refine ⟨v,w,.inl ?_,ZB.same hr (.of g v)⟩
      simp [execOp,ho,Za7 hu h1,hrv]
    · cases hrun
  · cases hrun
theorem sim_un {op : UnOp} {t : TypeId} {x : Operand} {y : Opd} (ho : o.op = .unOp op t x) (hx : ZC glob x = some y) (he : We g a ρ glob) (hr : R P top g h w) (call : Call) (E : Env) (hE : E.P = P)
    (hrun : Zey op y E call a h = .ok d h') : ∃ v w',Xx P ρ o w v w' ∧ ZB P top g h w d h' v w' := by
  simp only [Zey] at hrun
  have h1 := he x y hx
  split at hrun
  · rename_i b hb
    rw [hb] at h1
    cases hrun
    generalize hv : ρ x = v at h1
    cases h1
    exact ⟨.bool !b,w,.inl (by simp [execOp,ho,hv,Op.unary]),ZB.same hr (.v _)⟩
  · split at hrun
    · rename_i u hu
      split at hrun
      · rename_i v hv
        cases hrun
        rw [hE] at hv
        have hrv := Wr hv w
        refine ⟨v,w,.inl ?_,ZB.same hr (.of g v)⟩
        simp [execOp,ho,Za7 hu h1,hrv]
      · cases hrun
    · cases hrun
theorem sim_bi {b : Builtin} {c : Go.Call} {ys : List Opd} (ho : o.op = .call c) (hcal : c.callee = .builtin b) (hx : Zg9 glob c.args.toList = some ys) (he : We g a ρ glob) (hr : R P top g h w) (call : Call) (E : Env) (hE : E.P = P)
    (hrun : Zse b c.argTypes o.type (c.args.map fun | .const _ => true | _ => false) ys E call a h = .ok d h') : ∃ v w',Xx P ρ o w v w' ∧ ZB P top g h w d h' v w' := by
  simp only [Zse] at hrun
  have h1 := he.evals hx
  split at hrun
  · rename_i vs hvs
    have hve := Zlj hvs h1
    split at hrun
    · rename_i v hv
      cases hrun
      rw [hE] at hv
      have hrv := Wr hv w
      refine ⟨v,w,.inl ?_,ZB.same hr (.of g v)⟩
      have harr : c.args.map ρ = vs.toArray := Array.ext' (by simpa using hve)
      simp only [execOp,ho,resolve,hcal,invoke,Sem.run_bind,Sem.run_pure,Result.andThen_ok,harr]
      exact hrv
    · cases hrun
  · cases hrun
theorem Zsf {op : BinOp} {t : TypeId} {ox oy : Operand} {x y : D} {u v : Value} {d : D} (hq : Za6 op x y = some d) (hx : VRel g x u) (hy : VRel g y v) (w : World) :
    ∃ r,(do eqGuard op t ox oy u v; binOp op t u v : Sem Value).run P w = .ok r w ∧ VRel g d r := by
  cases hx <;> simp only [Za6] at hq <;> try (cases hq; done)
  · cases hy <;> simp only at hq <;> try (cases hq; done)
    rename_i k a k' b
    cases op <;> simp only at hq <;> (first | (cases hq; done) | skip) <;> (
      by_cases hk : k = k'
      · subst hk
        simp only [decide_true,cond_true,Option.some.injEq] at hq
        subst hq
        first
          | exact ⟨_,by simp [eqGuard,binOp,Op.intArith,← Zni],.int _ _⟩
          | (refine ⟨_, ?_,.v _⟩; simp [eqGuard,binOp,Op.intCmp]; done)
          | (refine ⟨_, ?_,.v _⟩; simp [eqGuard,binOp,Op.intCmp]; exact Bool.eq_iff_iff.2 (by simp))
      · simp [hk] at hq)
  · cases hy <;> simp only at hq <;> try (cases hq; done)
    rename_i s s'
    cases op <;> simp only at hq <;> (first | (cases hq; done) | skip)
    · cases hb : Nat.ble ((ZE s).length + (ZE s').length) 140737488355328 with
      | false => rw [hb] at hq; cases hq
      | true =>
        rw [hb] at hq
        simp only [cond_true,Option.some.injEq] at hq
        subst hq
        have h1 := Nat.le_of_ble_eq_true hb
        have e1 : (ZE s).length = s.size := by simp [ZE]
        have e2 : (ZE s').length = s'.size := by simp [ZE]
        rw [e1,e2] at h1
        have e3 : ZE s ++ ZE s' = ZE (s ++ s') := by simp [ZE]
        refine ⟨.string (s ++ s'), ?_,by rw [e3]; exact .str _⟩
        simp [eqGuard,binOp,Op.stringOp]
        omega
    · cases hq
      rw [Ze4]
      refine ⟨.bool (decide (ZE s = ZE s')), ?_,.v _⟩
      have : (s.toList == s'.toList) = decide (ZE s = ZE s') := by
        rw [ByteArray.toList_eq,ByteArray.toList_eq,Bool.eq_iff_iff]; simp [Zfm,ByteArray.ext_iff]
      simp only [eqGuard,binOp,Op.stringOp,this]
      simp
    · cases hq
      rw [Ze4]
      refine ⟨.bool (!decide (ZE s = ZE s')), ?_,.v _⟩
      have : (s.toList == s'.toList) = decide (ZE s = ZE s') := by
        rw [ByteArray.toList_eq,ByteArray.toList_eq,Bool.eq_iff_iff]; simp [Zfm,ByteArray.ext_iff]
      simp only [eqGuard,binOp,Op.stringOp,this]
      simp
end
end
end Go.Abs
namespace Go.Abs
noncomputable section
section
variable {P : Program} {top : Nat} {glob : Nat → Option (List D)} {g : G} {h h' : H} {w : World} {a : AAct} {ρ : Operand → Value} {o : Oper} {d : D}
theorem Zuz {t : TypeId} {x y : D} {u v : Value} {b : Bool} (hq : Zq1 (P.underlying t) x y = some b) (hx : VRel g x u) (hy : VRel g y v) (w : World) (n : Nat) :
    (Op.equalIn (n + 1) t u v).run P w = .ok b w := by
  unfold Zq1 at hq
  generalize hu : P.underlying t = un at hq
  split at hq <;> (first | (cases hq; done) | skip)
  all_goals
    cases hq
    cases hx
    cases hy
    simp [Op.equalIn,run_underlying hu]
theorem Z0t {t : TypeId} {ox oy : Operand} {x y : D} {u v : Value} {b : Bool} (hq : Zq1 (P.underlying t) x y = some b) (hx : VRel g x u) (hy : VRel g y v) (w : World) :
    (do eqGuard .eql t ox oy u v; binOp .eql t u v : Sem Value).run P w = .ok (.bool b) w ∧ (do eqGuard .neq t ox oy u v; binOp .neq t u v : Sem Value).run P w = .ok (.bool !b) w := by
  have key : (Op.equal t u v).run P w = .ok b w := Zuz hq hx hy w 9999
  unfold Zq1 at hq
  generalize hu : P.underlying t = un at hq
  split at hq <;> (first | (cases hq; done) | skip)
  all_goals
    cases hq
    cases hx
    cases hy
    constructor <;> simp [eqGuard,binOp,key]
theorem Z69 {op : BinOp} {t yt : TypeId} {x z : Operand} {y u : Opd} (ho : o.op = .binOp op t x z yt) (hx : ZC glob x = some y) (hz : ZC glob z = some u) (he : We g a ρ glob) (hr : R P top g h w) (call : Call) (E : Env) (hE : E.P = P)
    (hrun : Zmh op t x z y u E call a h = .ok d h') : ∃ v w',Xx P ρ o w v w' ∧ ZB P top g h w d h' v w' := by
  simp only [Zmh,Zbl] at hrun
  split at hrun
  · rename_i e hb
    cases hrun
    unfold Zcq at hb
    have h1 := he x y hx
    have h2 := he z u hz
    have key : ∃ r,(do eqGuard op t x z (ρ x) (ρ z); binOp op t (ρ x) (ρ z) : Sem Value).run P w = .ok r w ∧ VRel g d r := by
      split at hb
      · rename_i e hq
        cases hb
        exact Zsf hq h1 h2 w
      · split at hb
        · rename_i p q hp hq'
          split at hb
          · rename_i v hv
            cases hb
            rw [hE] at hv
            rw [Za7 hp h1,Za7 hq' h2]
            exact ⟨v,Wr hv w,.of g v⟩
          · cases hb
        · rw [hE] at hb
          cases hn : Zq1 (P.underlying t) (a.eval y) (a.eval u) with
          | none => rw [hn] at hb; cases op <;> cases hb
          | some b =>
            rw [hn] at hb
            have hk := Z0t (ox := x) (oy := z) hn h1 h2 w
            cases op <;> (first | (cases hb; done) | skip)
            · cases hb; exact ⟨.bool b,hk.1,.v _⟩
            · cases hb; exact ⟨.bool !b,hk.2,.v _⟩
    obtain ⟨r,hrr,hvr⟩ := key
    refine ⟨r,w,.inl ?_,ZB.same hr hvr⟩
    simp only [execOp,ho]
    rw [Sem.run_bind,hrr]
    rfl
  · cases hrun
theorem Zuo {t : TypeId} {ag : Bool} {n off : Nat} {cs : List D} {vs : Array Value} {d : D} (ha : Zec P t = some ag) (hn : Xd P t = some n) (hv : Zk g cs vs.toList) (hp : Zka ag n cs off = some d) (w : World) :
    ∃ v,(part t vs off).run P w = .ok v w ∧ VRel g d v := by
  obtain ⟨i,hi,his,hic,hsz⟩ := YD hn
  have hag := Zcl ha
  unfold Zka at hp
  cases ag with
  | true =>
    simp only [cond_true] at hp
    cases hq : Nat.beq (List.take n (List.drop off cs)).length n with
    | false => rw [hq] at hp; cases hp
    | true =>
      rw [hq] at hp
      simp only [cond_true,Option.some.injEq] at hp
      subst hp
      refine ⟨.agg (vs.extract off (off + n)),by simp [part,hag,hsz],.agg' ?_⟩
      have := (hv.drop off).take n
      have he : (vs.extract off (off + n)).toList = (vs.toList.drop off).take n := by
        rw [Array.toList_extract,List.extract_eq_take_drop]; congr 1; omega
      rw [he]; exact this
  | false =>
    simp only [cond_false] at hp
    split at hp
    · rename_i e r hc
      cases hp
      have hce : cs[off]? = some d := by
        have : (cs.drop off)[0]? = some d := by rw [hc]; rfl
        rw [List.getElem?_drop] at this
        simpa using this
      obtain ⟨v,hv1,hv2⟩ := hv.some hce
      refine ⟨v, ?_,hv2⟩
      have : vs[off]? = some v := by simpa using hv1
      simp [part,hag,this]
    · cases hp
theorem Z66 {t : TypeId} {fs : Array Field} {f : Field} {i n : Nat} {ag : Bool} {x : Operand} {y : Opd} (ho : o.op = .field t x i) (hu : P.underlying t = some (.struct fs)) (hf : fs[i]? = some f) (ha : Zec P f.type = some ag) (hn : Xd P f.type = some n)
    (hx : ZC glob x = some y) (he : We g a ρ glob) (hr : R P top g h w) (call : Call) (E : Env) (hrun : Zd6 ag f.offset n y E call a h = .ok d h') : ∃ v w',Xx P ρ o w v w' ∧ ZB P top g h w d h' v w' := by
  simp only [Zd6,Zbl] at hrun
  have h1 := he x y hx
  split at hrun
  · rename_i cs hb
    rw [hb] at h1
    split at hrun
    · rename_i e hp
      cases hrun
      generalize hv : ρ x = v at h1
      cases h1 with
      | agg hl hpw =>
        rename_i us
        obtain ⟨r,hr1,hr2⟩ := Zuo (P := P) (vs := us) ha hn ⟨by simpa using hl,fun i d v hd hu => hpw i d v hd (by simpa using hu)⟩ hp w
        refine ⟨r,w,.inl ?_,ZB.same hr hr2⟩
        simp [execOp,ho,hv,Instr.field,run_underlying hu,hf,asAgg,hr1]
    · cases hrun
  · cases hrun
theorem Zbb {i : D} {n k : Nat} (hi : U9 i n = some k) {v : Value} (hv : VRel g i v) : ∃ kk,v = .int kk (k : Int) ∧ k < n := by
  unfold U9 at hi
  split at hi
  · rename_i kk m
    cases hb : Nat.blt m n with
    | false => rw [hb] at hi; cases hi
    | true =>
      rw [hb] at hi
      simp only [cond_true,Option.some.injEq] at hi
      subst hi
      cases hv
      exact ⟨kk, rfl, by have : m + 1 ≤ n := by simpa [Nat.blt] using hb
                         omega⟩
  · cases hi
theorem Z2v {t e : TypeId} {n sz : Nat} {ag : Bool} {x i : Operand} {y u : Opd} (ho : o.op = .index t x i) (hu : P.underlying t = some (.array n e)) (ha : Zec P e = some ag) (hn : Xd P e = some sz)
    (hx : ZC glob x = some y) (hi : ZC glob i = some u) (he : We g a ρ glob) (hr : R P top g h w) (call : Call) (E : Env) (hrun : Za5 ag n sz y u E call a h = .ok d h') : ∃ v w',Xx P ρ o w v w' ∧ ZB P top g h w d h' v w' := by
  simp only [Za5,Zbl] at hrun
  have h1 := he x y hx
  have h2 := he i u hi
  split at hrun
  · rename_i cs k hb hk
    rw [hb] at h1
    obtain ⟨kk,hkv,hkn⟩ := Zbb hk h2
    split at hrun
    · rename_i e' hp
      cases hrun
      generalize hv : ρ x = v at h1
      cases h1 with
      | agg hl hpw =>
        rename_i us
        obtain ⟨r,hr1,hr2⟩ := Zuo (P := P) (vs := us) ha hn ⟨by simpa using hl,fun i d v hd hu => hpw i d v hd (by simpa using hu)⟩ hp w
        obtain ⟨ii,hii,his,hic,hsz⟩ := YD hn
        refine ⟨r,w,.inl ?_,ZB.same hr hr2⟩
        simp [execOp,ho,hv,hkv,Instr.index,asIntOf,run_underlying hu,hkn,hsz,hr1]
    · cases hrun
  · cases hrun
theorem sim_fa {t : TypeId} {fs : Array Field} {f : Field} {i n : Nat} {x : Operand} {y : Opd} (ho : o.op = .fieldAddr t x i) (hu : P.underlying t = some (.struct fs)) (hf : fs[i]? = some f) (hn : Xd P f.type = some n) (hn0 : n ≠ 0)
    (hx : ZC glob x = some y) (he : We g a ρ glob) (hr : R P top g h w) (call : Call) (E : Env) (hrun : Zi1 f.offset y E call a h = .ok d h') : ∃ v w',Xx P ρ o w v w' ∧ ZB P top g h w d h' v w' := by
  simp only [Zi1] at hrun
  have h1 := he x y hx
  obtain ⟨ii,hii,his,hic,hsz⟩ := YD hn
  split at hrun
  · rename_i l off hb
    rw [hb] at h1
    cases hrun
    generalize hv : ρ x = v at h1
    cases h1 with
    | ptr hbl =>
      rename_i b
      refine ⟨.pointer (some ⟨b,off + f.offset,none⟩),w,.inl ?_,ZB.same hr (.ptr hbl)⟩
      simp [execOp,ho,hv,Instr.fieldAt,Instr.sureAddr,run_underlying hu,hf,fieldPlace,hsz,hn0,Xb]
  · rename_i cs hb
    rw [hb] at h1
    cases hrun
    generalize hv : ρ x = v at h1
    cases h1 with
    | ep hi =>
      rename_i b off
      refine ⟨.pointer (some ⟨b,off + f.offset,none⟩),w,.inl ?_,ZB.same hr (.ep fun i d hd => ?_)⟩
      · simp [execOp,ho,hv,Instr.fieldAt,Instr.sureAddr,run_underlying hu,hf,fieldPlace,hsz,hn0,Xb]
      · rw [List.getElem?_drop] at hd
        rw [Nat.add_assoc]; exact hi _ d hd
  · cases hrun
theorem Z65 {t e : TypeId} {n sz : Nat} {x i : Operand} {y u : Opd} (ho : o.op = .indexAddr t x i) (hu : P.underlying t = some (.array n e)) (hn : Xd P e = some sz)
    (hx : ZC glob x = some y) (hi : ZC glob i = some u) (he : We g a ρ glob) (hr : R P top g h w) (call : Call) (E : Env) (hrun : Zfc n sz y u E call a h = .ok d h') : ∃ v w',Xx P ρ o w v w' ∧ ZB P top g h w d h' v w' := by
  simp only [Zfc,Zbl] at hrun
  have h1 := he x y hx
  have h2 := he i u hi
  obtain ⟨ii,hii,his,hic,hsz⟩ := YD hn
  split at hrun
  · rename_i e' hp
    cases hrun
    unfold Zij at hp
    split at hp
    · rename_i k l off hk hb
      cases hp
      rw [hb] at h1
      obtain ⟨kk,hkv,hkn⟩ := Zbb hk h2
      generalize hv : ρ x = v at h1
      cases h1 with
      | ptr hbl =>
        rename_i b
        refine ⟨.pointer (some ⟨b,off + k * sz,none⟩),w,.inl ?_,ZB.same hr (.ptr hbl)⟩
        simp [execOp,ho,hv,hkv,Instr.indexAt,Instr.sureAddr,asIntOf,run_underlying hu,hkn,hsz,Xb]
    · rename_i k cs hk hb
      cases hp
      rw [hb] at h1
      obtain ⟨kk,hkv,hkn⟩ := Zbb hk h2
      generalize hv : ρ x = v at h1
      cases h1 with
      | ep hi' =>
        rename_i b off
        refine ⟨.pointer (some ⟨b,off + k * sz,none⟩),w,.inl ?_,ZB.same hr (.ep fun i d hd => ?_)⟩
        · simp [execOp,ho,hv,hkv,Instr.indexAt,Instr.sureAddr,asIntOf,run_underlying hu,hkn,hsz,Xb]
        · rw [List.getElem?_drop] at hd
          rw [Nat.add_assoc]; exact hi' _ d hd
    · cases hp
  · cases hrun
theorem Z64 {t e : TypeId} {sz : Nat} {x i : Operand} {y u : Opd} (ho : o.op = .indexAddr t x i) (hu : P.underlying t = some (.slice e)) (hn : Xd P e = some sz)
    (hx : ZC glob x = some y) (hi : ZC glob i = some u) (he : We g a ρ glob) (hr : R P top g h w) (call : Call) (E : Env) (hrun : Zfb sz y u E call a h = .ok d h') : ∃ v w',Xx P ρ o w v w' ∧ ZB P top g h w d h' v w' := by
  simp only [Zfb,Zbl] at hrun
  have h1 := he x y hx
  have h2 := he i u hi
  obtain ⟨ii,hii,his,hic,hsz⟩ := YD hn
  split at hrun
  · rename_i e' hp
    cases hrun
    unfold Zed at hp
    split at hp
    · rename_i id n cs hb
      split at hp
      · rename_i k hk
        split at hp
        · cases hp
        · rename_i c r hdr
          cases hp
          rw [hb] at h1
          obtain ⟨kk,hkv,hkn⟩ := Zbb hk h2
          generalize hv : ρ x = v at h1
          cases h1 with
          | sl hcap hcs hid =>
            rename_i ad cap
            have hsp : ad.spot = none := by
              have : (cs.drop (k * sz))[0]? = some c := by rw [hdr]; rfl
              rw [List.getElem?_drop] at this
              exact (hcs _ _ this).1
            obtain ⟨bb,oo,sp⟩ := ad
            simp only at hsp
            subst hsp
            refine ⟨.pointer (some ⟨bb,oo + k * sz,none⟩),w,.inl ?_,ZB.same hr (.ep fun i d hd => ?_)⟩
            · simp [execOp,ho,hv,hkv,Instr.indexAt,Instr.sureAddr,asIntOf,run_underlying hu,hkn,hsz,Xb]
            · rw [← hdr,List.getElem?_drop] at hd
              rw [Nat.add_assoc]; exact (hcs _ d hd).2
      · cases hp
    · rename_i l off n cap hb
      split at hp
      · rename_i k hk
        cases hp
        rw [hb] at h1
        obtain ⟨kk,hkv,hkn⟩ := Zbb hk h2
        generalize hv : ρ x = v at h1
        cases h1 with
        | row hbl =>
          rename_i b
          refine ⟨.pointer (some ⟨b,off + k * sz,none⟩),w,.inl ?_,ZB.same hr (.ptr hbl)⟩
          simp [execOp,ho,hv,hkv,Instr.indexAt,Instr.sureAddr,asIntOf,run_underlying hu,hkn,hsz,Xb]
      · cases hp
    · cases hp
  · cases hrun
end
end
end Go.Abs
namespace Go.Abs
noncomputable section
section
variable {P : Program} {top : Nat} {glob : Nat → Option (List D)} {g : G} {h h' : H} {w : World} {a : AAct} {ρ : Operand → Value} {o : Oper} {d : D}
theorem We.opt (he : We g a ρ glob) {x : Option Operand} {y : Option Opd} (hx : Zf1 glob x = some y) : (x = none ∧ y = none) ∨ ∃ p q,x = some p ∧ y = some q ∧ VRel g (a.eval q) (ρ p) := by
  cases x with
  | none => simp [Zf1] at hx; exact .inl ⟨rfl,hx.symm⟩
  | some p =>
    simp only [Zf1] at hx
    split at hx
    · rename_i q hq
      cases hx
      exact .inr ⟨p,q,rfl,rfl,he p q hq⟩
    · cases hx
theorem UX {len cap l k : Nat} {isS : Bool} {lo hi : Option Operand} {lo' hi' : Option Opd} (he : We g a ρ glob) (hlo : Zf1 glob lo = some lo') (hhi : Zf1 glob hi = some hi')
    (hb : Wh len cap (lo'.map a.eval) (hi'.map a.eval) = some (l,k)) (w : World) : (Instr.sliceBounds isS len cap (lo.map ρ) (hi.map ρ) none).run P w = .ok (l,k,cap) w ∧ l ≤ k ∧ (hi = none → k = len) ∧ (hi ≠ none → k ≤ cap) := by
  unfold Wh at hb
  split at hb
  case h_2 => cases hb
  rename_i hh hhd
  have hcase : hi = none ∧ hh = len ∨ ∃ p kk,hi = some p ∧ ρ p = .int kk (hh : Int) ∧ hh ≤ cap := by
    rcases he.opt hhi with ⟨rfl,rfl⟩ | ⟨p,q,rfl,rfl,hv⟩
    · simp [Z06] at hhd; exact .inl ⟨rfl,hhd.symm⟩
    · simp only [Option.map_some] at hhd
      unfold Z06 at hhd
      split at hhd
      · rename_i hq; cases hq
      · rename_i kk n hq
        cases hbb : Nat.ble n cap with
        | false => rw [hbb] at hhd; cases hhd
        | true =>
          rw [hbb] at hhd
          cases hhd
          simp only [Option.some.injEq] at hq
          rw [hq] at hv
          refine .inr ⟨p,kk,rfl, ?_,Nat.le_of_ble_eq_true hbb⟩
          generalize hr : ρ p = r at hv
          cases hv; rfl
      · cases hhd
  have hL : k = hh ∧ l ≤ hh ∧ (lo = none ∧ l = 0 ∨ ∃ p kk,lo = some p ∧ ρ p = .int kk (l : Int)) := by
    rcases he.opt hlo with ⟨rfl,rfl⟩ | ⟨p,q,rfl,rfl,hv⟩
    · simp [Z6e] at hb
      obtain ⟨rfl,rfl⟩ := hb
      exact ⟨rfl,Nat.zero_le _,.inl ⟨rfl,rfl⟩⟩
    · simp only [Option.map_some] at hb
      unfold Z6e at hb
      split at hb
      · rename_i hq; cases hq
      · rename_i kk n hq
        cases hbb : Nat.ble n hh with
        | false => rw [hbb] at hb; cases hb
        | true =>
          rw [hbb] at hb
          cases hb
          simp only [Option.some.injEq] at hq
          rw [hq] at hv
          refine ⟨rfl,Nat.le_of_ble_eq_true hbb,.inr ⟨p,kk,rfl, ?_⟩⟩
          generalize hr : ρ p = r at hv
          cases hv; rfl
      · cases hb
  obtain ⟨rfl,hle,hlo2⟩ := hL
  refine ⟨?_,hle,fun e => ?_,fun e => ?_⟩
  · rcases hcase with ⟨rfl,rfl⟩ | ⟨p,kk,rfl,hp,hcap⟩ <;> rcases hlo2 with ⟨rfl,rfl⟩ | ⟨p',kk',rfl,hp'⟩
    · simp [Instr.sliceBounds]
    · simp [Instr.sliceBounds,Instr.sliceBound,asIntOf,hp',hle]
    · simp [Instr.sliceBounds,Instr.sliceBound,asIntOf,hp,hcap]
    · simp [Instr.sliceBounds,Instr.sliceBound,asIntOf,hp,hp',hcap,hle]
  · rcases hcase with ⟨_,rfl⟩ | ⟨p,kk,rfl,_⟩
    · rfl
    · cases e
  · rcases hcase with ⟨rfl,_⟩ | ⟨p,kk,_,_,hcap⟩
    · exact absurd rfl e
    · exact hcap
theorem Zz6 {t : TypeId} {x : Operand} {y : Opd} {lo hi : Option Operand} {lo' hi' : Option Opd} (ho : o.op = .slice t x lo hi none) (hu : P.underlying t = some .string)
    (hx : ZC glob x = some y) (hlo : Zf1 glob lo = some lo') (hhi : Zf1 glob hi = some hi') (he : We g a ρ glob) (hr : R P top g h w) (call : Call) (E : Env) (hrun : Zb7 y lo' hi' E call a h = .ok d h') : ∃ v w',Xx P ρ o w v w' ∧ ZB P top g h w d h' v w' := by
  simp only [Zb7] at hrun
  have h1 := he x y hx
  split at hrun
  · rename_i s hb
    rw [hb] at h1
    split at hrun
    · rename_i l k hbd
      cases hrun
      generalize hv : ρ x = v at h1
      cases h1 with
      | str s =>
        have hsz : (ZE s).length = s.size := by simp [ZE]
        rw [hsz] at hbd
        obtain ⟨hb1,hb2,hb3,hb4⟩ := UX (P := P) (isS := false) he hlo hhi hbd w
        have he2 : ((ZE s).drop l).take (k - l) = ZE (s.extract l k) := by
          simp only [ZE,ByteArray.data_extract,Array.toList_extract,List.extract_eq_take_drop,List.map_take,List.map_drop]
        refine ⟨.string (s.extract l k),w,.inl ?_,ZB.same hr (by rw [he2]; exact .str _)⟩
        simp [execOp,ho,hv,Instr.sliceAt,Instr.slice,run_underlying hu,hb1]
    · cases hrun
  · cases hrun
theorem Z2n {t e : TypeId} {sz : Nat} {x : Operand} {y : Opd} {lo hi : Option Operand} {lo' hi' : Option Opd} (ho : o.op = .slice t x lo hi none) (hu : P.underlying t = some (.slice e)) (hn : Xd P e = some sz)
    (hx : ZC glob x = some y) (hlo : Zf1 glob lo = some lo') (hhi : Zf1 glob hi = some hi') (he : We g a ρ glob) (hr : R P top g h w) (call : Call) (E : Env) (hrun : Za1 sz y lo' hi' E call a h = .ok d h') : ∃ v w',Xx P ρ o w v w' ∧ ZB P top g h w d h' v w' := by
  simp only [Za1,Zbl] at hrun
  have h1 := he x y hx
  obtain ⟨ii,hii,his,hic,hsz⟩ := YD hn
  split at hrun
  · rename_i e' hp
    cases hrun
    unfold Zk2 at hp
    split at hp
    · rename_i hb
      rw [hb] at h1
      split at hp
      · rename_i lk hbd
        obtain ⟨l,k⟩ := lk
        cases hp
        generalize hv : ρ x = v at h1
        cases h1
        obtain ⟨hb1,hb2,hb3,hb4⟩ := UX (P := P) (isS := true) he hlo hhi hbd w
        have hk : k = 0 := by
          by_cases hi0 : hi = none
          · exact hb3 hi0
          · have := hb4 hi0; omega
        have hl : l = 0 := by omega
        subst hk hl
        refine ⟨.slice none 0 0,w,.inl ?_,ZB.same hr (by rw [hb]; exact .v _)⟩
        simp [execOp,ho,hv,Instr.sliceAt,Instr.slice,run_underlying hu,hb1,hsz]
      · cases hp
    · rename_i id n cs hb
      rw [hb] at h1
      split at hp
      · rename_i l k hbd
        generalize hv : ρ x = v at h1
        cases h1 with
        | sl hcap hcs hid =>
          rename_i ad cap
          have hbd' : Wh n cap (lo'.map a.eval) (hi'.map a.eval) = some (l,k) := by
            unfold Wh at hbd ⊢
            have : ∀ hh,Z06 n n (hi'.map a.eval) = some hh → Z06 n cap (hi'.map a.eval) = some hh := by
              intro hh hq
              unfold Z06 at hq ⊢
              split at hq
              · exact hq
              · rename_i kk m hz
                cases hbb : Nat.ble m n with
                | false => rw [hbb] at hq; cases hq
                | true =>
                  rw [hbb] at hq
                  have : Nat.ble m cap = true := Nat.ble_eq_true_of_le (Nat.le_trans (Nat.le_of_ble_eq_true hbb) hcap)
                  simp only [this]; exact hq
              · cases hq
            cases hq : Z06 n n (hi'.map a.eval) with
            | none => rw [hq] at hbd; cases hbd
            | some hh => rw [hq] at hbd; rw [this hh hq]; exact hbd
          obtain ⟨hb1,hb2,hb3,hb4⟩ := UX (P := P) (isS := true) he hlo hhi hbd' w
          obtain ⟨_,_,hb5,hb6⟩ := UX (P := P) (isS := true) he hlo hhi hbd w
          have hkn : k ≤ n := by
            by_cases hi0 : hi = none
            · exact Nat.le_of_eq (hb5 hi0)
            · exact hb6 hi0
          have hres : (execOp ρ o).run P w = .ok (.value (.slice (if cap = l then some ad else some (ad.add (l * sz))) (k - l) (cap - l))) w := by
            simp only [execOp,ho,hv,Instr.sliceAt,Instr.slice,Sem.run_bind,run_underlying hu,Result.andThen_ok,Option.map_none,hb1,hsz,Option.map_some]
            rfl
          have hadd : (if cap = l then some ad else some (ad.add (l * sz))) = some (if cap = l then ad else ad.add (l * sz)) := by split <;> rfl
          rw [hadd] at hres
          cases hq : Nat.beq l 0 && Nat.beq k n with
          | true =>
            rw [hq] at hp
            simp only [cond_true,Option.some.injEq] at hp
            rw [Bool.and_eq_true] at hq
            have e1 := Nat.eq_of_beq_eq_true hq.1
            have e2 := Nat.eq_of_beq_eq_true hq.2
            subst e1 e2
            refine ⟨_,w,.inl hres,ZB.same hr ?_⟩
            rw [← hp]
            have : (if cap = 0 then ad else ad.add (0 * sz)) = ad := by split <;> simp [Addr.add]
            rw [this,hb]
            exact .sl hcap hcs hid
          | false =>
            rw [hq] at hp
            simp only [cond_false,Option.some.injEq] at hp
            refine ⟨_,w,.inl hres,ZB.same hr ?_⟩
            rw [← hp]
            refine .sl (by omega) (fun i dd hdd => ?_) (fun h0 => absurd rfl h0)
            have hilt : i < (k - l) * sz := by
              have := (List.getElem?_eq_some_iff.1 hdd).1
              simp at this; omega
            rw [List.getElem?_take_of_lt hilt,List.getElem?_drop] at hdd
            have hc := hcs _ dd hdd
            have hlc : cap ≠ l := by intro e; have : k - l = 0 := by omega
                                     rw [this] at hilt; simp at hilt
            rw [if_neg hlc]
            obtain ⟨bb,oo,sp⟩ := ad
            obtain ⟨rfl,hi⟩ := hc
            rw [Xb]
            exact ⟨rfl,by simpa [Nat.add_assoc] using hi⟩
      · cases hp
    · rename_i bb off len cap hb
      rw [hb] at h1
      split at hp
      · rename_i l k hbd
        cases hq : Nat.beq l cap with
        | true => rw [hq] at hp; cases hp
        | false =>
          rw [hq] at hp
          simp only [cond_false,Option.some.injEq] at hp
          subst hp
          generalize hv : ρ x = v at h1
          cases h1 with
          | row hbl =>
            rename_i b
            obtain ⟨hb1,hb2,hb3,hb4⟩ := UX (P := P) (isS := true) he hlo hhi hbd w
            have hne : ¬ cap = l := fun e => by subst e; simp at hq
            refine ⟨.slice (some ⟨b,off + l * sz,none⟩) (k - l) (cap - l),w,.inl ?_,ZB.same hr (.row hbl)⟩
            simp [execOp,ho,hv,Instr.sliceAt,Instr.slice,run_underlying hu,hb1,hsz,hne,Xb]
      · cases hp
    · cases hp
  · cases hrun
theorem Zz7 {t e : TypeId} {n sz : Nat} {x : Operand} {y : Opd} {lo hi : Option Operand} {lo' hi' : Option Opd} (ho : o.op = .slice t x lo hi none) (hu : P.underlying t = some (.array n e)) (hn : Xd P e = some sz)
    (hx : ZC glob x = some y) (hlo : Zf1 glob lo = some lo') (hhi : Zf1 glob hi = some hi') (he : We g a ρ glob) (hr : R P top g h w) (call : Call) (E : Env) (hrun : Zb8 n sz y lo' hi' E call a h = .ok d h') : ∃ v w',Xx P ρ o w v w' ∧ ZB P top g h w d h' v w' := by
  simp only [Zb8,Zbl] at hrun
  have h1 := he x y hx
  obtain ⟨ii,hii,his,hic,hsz⟩ := YD hn
  split at hrun
  · rename_i e' hp
    cases hrun
    unfold Zqg at hp
    split at hp
    · rename_i bb off hb
      rw [hb] at h1
      split at hp
      · rename_i l k hbd
        cases hq : Nat.beq l n with
        | true => rw [hq] at hp; cases hp
        | false =>
          rw [hq] at hp
          simp only [cond_false,Option.some.injEq] at hp
          subst hp
          generalize hv : ρ x = v at h1
          cases h1 with
          | ptr hbl =>
            rename_i b
            obtain ⟨hb1,hb2,hb3,hb4⟩ := UX (P := P) (isS := false) he hlo hhi hbd w
            have hne : ¬ n = l := fun e => by subst e; simp at hq
            refine ⟨.slice (some ⟨b,off + l * sz,none⟩) (k - l) (n - l),w,.inl ?_,ZB.same hr (.row hbl)⟩
            simp [execOp,ho,hv,Instr.sliceAt,Instr.sureAddr,run_underlying hu,hb1,hsz,hne,Xb]
      · cases hp
    · rename_i cs hb
      rw [hb] at h1
      split at hp
      · rename_i l k hbd
        cases hq : Nat.beq l n with
        | true => rw [hq] at hp; cases hp
        | false =>
          rw [hq] at hp
          simp only [cond_false,Option.some.injEq] at hp
          subst hp
          generalize hv : ρ x = v at h1
          cases h1 with
          | ep hi' =>
            rename_i b off
            obtain ⟨hb1,hb2,hb3,hb4⟩ := UX (P := P) (isS := false) he hlo hhi hbd w
            have hne : ¬ n = l := fun e => by subst e; simp at hq
            have hkn : k ≤ n := by
              by_cases hi0 : hi = none
              · exact Nat.le_of_eq (hb3 hi0)
              · exact hb4 hi0
            refine ⟨.slice (some ⟨b,off + l * sz,none⟩) (k - l) (n - l),w,.inl ?_,ZB.same hr (.sl (by omega) (fun i dd hdd => ⟨rfl, ?_⟩) (fun h0 => absurd rfl h0))⟩
            · simp [execOp,ho,hv,Instr.sliceAt,Instr.sureAddr,run_underlying hu,hb1,hsz,hne,Xb]
            · have hilt : i < (k - l) * sz := by
                have := (List.getElem?_eq_some_iff.1 hdd).1
                simp at this; omega
              rw [List.getElem?_take_of_lt hilt,List.getElem?_drop] at hdd
              have := hi' _ dd hdd
              simpa [Nat.add_assoc] using this
      · cases hp
    · cases hp
  · cases hrun
theorem Z2u {t : TypeId} {x i : Operand} {y u : Opd} (ho : o.op = .index t x i) (hu : P.underlying t = some .string)
    (hx : ZC glob x = some y) (hi : ZC glob i = some u) (he : We g a ρ glob) (hr : R P top g h w) (call : Call) (E : Env) (hrun : Za4 y u E call a h = .ok d h') : ∃ v w',Xx P ρ o w v w' ∧ ZB P top g h w d h' v w' := by
  simp only [Za4] at hrun
  have h1 := he x y hx
  have h2 := he i u hi
  split at hrun
  · rename_i s kk n hb hk
    rw [hb] at h1
    rw [hk] at h2
    split at hrun
    · rename_i b r hdr
      cases hrun
      generalize hv : ρ x = v at h1
      generalize hv2 : ρ i = v2 at h2
      cases h2
      cases h1 with
      | str s =>
        have hq : (ZE s)[n]? = some b := by
          have : ((ZE s).drop n)[0]? = some b := by rw [hdr]; rfl
          rw [List.getElem?_drop] at this
          simpa using this
        simp only [ZE,List.getElem?_map] at hq
        cases hs : s.data.toList[n]? with
        | none => rw [hs] at hq; cases hq
        | some c =>
          rw [hs] at hq
          simp at hq
          subst hq
          have hlt : n < s.size := by
            have := (List.getElem?_eq_some_iff.1 hs).1
            simpa using this
          have hc : s[n]? = some c := by
            have h3 : s.data[n]? = some c := by simpa using hs
            rw [getElem?_pos s n hlt]
            have h4 : n < s.data.size := hlt
            rw [getElem?_pos s.data n h4] at h3
            exact h3
          refine ⟨.int .u8 c.toNat,w,.inl ?_,ZB.same hr (.int _ _)⟩
          simp [execOp,ho,hv,hv2,Instr.index,asIntOf,run_underlying hu,hc]
    · cases hrun
  · cases hrun
end
end
end Go.Abs
