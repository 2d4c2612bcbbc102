/- Each operation, in a world and on plain data: those that look at no memory. -/
import Derived.Test.YtmaphdhdfbgflaaGreatDoorAbsOps1
import Derived.IntWalk
import Derived.Lib.SmallJoins
set_option linter.unusedVariables false
namespace Go.Abs
section
variable {P : Program} {top : Nat} {glob : Nat → Option (List D)} {g : G} {h h' : H} {w : World} {a : AAct} {ρ : Operand → Value} {o : Oper} {d : D}

theorem wrapF_eq (k : IntKind) (n : Int) : wrapF k n = k.wrap n := by
  unfold wrapF
  cases hi : isOk k n with
  | false => rfl
  | true =>
    simp only [cond_true]
    cases k <;> simp only [isOk, Bool.and_eq_true, decide_eq_true_eq] at hi
    · exact (IntWalk.i8_in n hi).symm
    · exact (IntWalk.i16_in n hi).symm
    · exact (IntWalk.i32_in n hi).symm
    · exact (IntWalk.i64_in n hi).symm
    · exact (IntWalk.u8_in n hi).symm
    · exact (IntWalk.u16_in n hi).symm
    · exact (IntWalk.u32_in n hi).symm
    · exact (IntWalk.u64_in n hi).symm

theorem beqL_eq : ∀ (a b : List Nat), beqL a b = decide (a = b)
  | [], [] => rfl
  | [], b :: y => by simp [beqL]
  | a :: x, [] => by simp [beqL]
  | a :: x, b :: y => by
    simp only [beqL, beqL_eq x y]
    by_cases h : a = b
    · subst h; simp
    · have : Nat.beq a b = false := by cases hb : Nat.beq a b with
        | false => rfl
        | true => exact absurd (Nat.eq_of_beq_eq_true hb) h
      simp [this, h]
theorem strD_inj {s t : ByteArray} : strD s = strD t ↔ s = t := by
  constructor
  · intro h; rw [← strV_strD s, ← strV_strD t, h]
  · rintro rfl; rfl

theorem bytes_inj_iff {s t : ByteArray} : s.data.toList = t.data.toList ↔ s = t := by
  constructor
  · intro h; cases s; cases t; congr 1; exact Array.ext' h
  · rintro rfl; rfl

theorem sim_mv {x : Operand} {y : Opd} (ho : o.op = .move x ∨ o.op = .assign x) (hx : copd glob x = some y) (he : ORel g a ρ glob) (hr : R P top g h w) (call : Call) (E : Env)
    (hrun : r_mv y E call a h = .ok d h') : ∃ v w', Does P ρ o w v w' ∧ Post P top g h w d h' v w' := by
  simp only [r_mv] at hrun
  cases hrun
  exact ⟨ρ x, w, .inl (by rcases ho with ho | ho <;> simp [execOp, ho]), Post.same hr (he x y hx)⟩
theorem sim_pick {c x z : Operand} {c' y u : Opd} (ho : o.op = .pick c x z) (hc : copd glob c = some c') (hx : copd glob x = some y) (hz : copd glob z = some u) (he : ORel g a ρ glob) (hr : R P top g h w) (call : Call) (E : Env)
    (hrun : r_pick c' y u E call a h = .ok d h') : ∃ v w', Does P ρ o w v w' ∧ Post P top g h w d h' v w' := by
  simp only [r_pick] at hrun
  have h1 := he c c' hc
  split at hrun
  · rename_i b hb
    rw [hb] at h1
    cases hrun
    have hcv : ρ c = .bool b := by
      generalize hv : ρ c = v at h1
      cases h1; rfl
    refine ⟨if b then ρ x else ρ z, w, .inl (by simp [execOp, ho, hcv, asBool]), Post.same hr ?_⟩
    cases b
    · exact he z u hz
    · exact he x y hx
  · cases hrun
theorem sim_nilCheck {x : Operand} {y : Opd} (ho : o.op = .nilCheck x) (hx : copd glob x = some y) (he : ORel g a ρ glob) (hr : R P top g h w) (call : Call) (E : Env)
    (hrun : r_nilCheck y E call a h = .ok d h') : ∃ v w', Does P ρ o w v w' ∧ Post P top g h w d h' v w' := by
  simp only [r_nilCheck] at hrun
  have h1 := he x y hx
  split at hrun <;> (first | (cases hrun; done) | skip)
  all_goals
    rename_i hb
    rw [hb] at h1
    cases hrun
    refine ⟨ρ x, w, .inl ?_, Post.same hr h1⟩
    generalize hv : ρ x = v at h1
    cases h1 <;> simp [execOp, ho, hv]
theorem sim_iface {t : TypeId} {x : Operand} {y : Opd} {u : TypeDesc} (ho : o.op = .makeInterface t x) (hu : P.underlying t = some u) (hni : ∀ ms, u ≠ .interface ms) (hx : copd glob x = some y) (he : ORel g a ρ glob) (hr : R P top g h w) (call : Call) (E : Env)
    (hrun : r_iface t y E call a h = .ok d h') : ∃ v w', Does P ρ o w v w' ∧ Post P top g h w d h' v w' := by
  simp only [r_iface] at hrun
  cases hrun
  refine ⟨.iface t (ρ x), w, .inl ?_, Post.same hr (.iface (he x y hx))⟩
  simp only [execOp, ho, Instr.makeInterface, Sem.run_bind, run_underlying hu, Result.andThen_ok]
  cases u <;> first | exact absurd rfl (hni _) | rfl
theorem sim_mkf {fn : Fn} {xs zs : Array Operand} {ys us : List Opd} (ho : o.op = .makeFunc fn xs zs) (hx : copds glob xs.toList = some ys) (hz : copds glob zs.toList = some us) (he : ORel g a ρ glob) (hr : R P top g h w) (call : Call) (E : Env)
    (hrun : r_mkf fn ys us E call a h = .ok d h') : ∃ v w', Does P ρ o w v w' ∧ Post P top g h w d h' v w' := by
  simp only [r_mkf] at hrun
  cases hrun
  have h1 := he.evals hx
  have h2 := he.evals hz
  refine ⟨.func fn (xs.map ρ) (zs.map ρ), w, .inl (by simp [execOp, ho, Instr.makeFunc]), Post.same hr (.func (by simpa using h1.1) (fun i d v hd hv => h1.2 i d v hd (by simpa using hv)) (by simpa using h2.1) (fun i d v hd hv => h2.2 i d v hd (by simpa using hv)))⟩
theorem sim_mkmap {t : TypeId} (ho : o.op = .makeMap t none) (hr : R P top g h w) (htop : h'.next ≤ top) (call : Call) (E : Env)
    (hrun : r_mkmap E call a h = .ok d h') : ∃ v w', Does P ρ o w v w' ∧ Post P top g h w d h' v w' := by
  have hl : Lies g (.map []) (.map #[] 0) := .map (by simp) (fun i k d e h => by simp at h)
  simp only [r_mkmap, H.new] at hrun
  cases hrun
  obtain ⟨g', hE, hR, hb⟩ := hr.new htop hl
  exact ⟨.map (some w.heap.size), w.alloc (.map #[] 0), .inl (by simp [execOp, ho, Instr.makeMap]), g', hE, hR, .map hb⟩
theorem sim_ext {i : Nat} {x : Operand} {y : Opd} (ho : o.op = .extract x i) (hx : copd glob x = some y) (he : ORel g a ρ glob) (hr : R P top g h w) (call : Call) (E : Env)
    (hrun : r_ext i y E call a h = .ok d h') : ∃ v w', Does P ρ o w v w' ∧ Post P top g h w d h' v w' := by
  simp only [r_ext] at hrun
  have h1 := he x y hx
  split at hrun
  · rename_i ds hb
    rw [hb] at h1
    cases hq : ds[i]? with
    | none => rw [hq] at hrun; cases hrun
    | some e =>
      rw [hq] at hrun
      cases hrun
      generalize hv : ρ x = v at h1
      cases h1 with
      | tup hl hp =>
        rename_i cs
        have hi : i < cs.size := by rw [← hl]; exact (List.getElem?_eq_some_iff.1 hq).1
        refine ⟨cs[i], w, .inl ?_, Post.same hr (hp i _ _ hq (Array.getElem?_eq_getElem hi))⟩
        simp [execOp, ho, hv, Instr.extract, hi]
  · cases hrun
theorem sim_cint {s t : TypeId} {k j : IntKind} {x : Operand} {y : Opd} (ho : o.op = .convert s t x) (hs : P.underlying s = some (.int j)) (ht : P.underlying t = some (.int k)) (hx : copd glob x = some y) (he : ORel g a ρ glob) (hr : R P top g h w) (call : Call) (E : Env)
    (hrun : r_cint k y E call a h = .ok d h') : ∃ v w', Does P ρ o w v w' ∧ Post P top g h w d h' v w' := by
  simp only [r_cint] at hrun
  have h1 := he x y hx
  split at hrun
  · rename_i kk n hb
    rw [hb] at h1
    cases hrun
    generalize hv : ρ x = v at h1
    cases h1
    refine ⟨.int k (k.wrap n), w, .inl ?_, Post.same hr (by rw [wrapF_eq]; exact .int _ _)⟩
    simp [execOp, ho, hv, convert, run_underlying hs, run_underlying ht, Conv.intToInt]
  · cases hrun
theorem sim_mvs {s t : TypeId} {x : Operand} {y : Opd} (ho : o.op = .convert s t x) (hs : P.underlying s = some .string) (ht : P.underlying t = some .string) (hx : copd glob x = some y) (he : ORel g a ρ glob) (hr : R P top g h w) (call : Call) (E : Env)
    (hrun : r_mvs y E call a h = .ok d h') : ∃ v w', Does P ρ o w v w' ∧ Post P top g h w d h' v w' := by
  simp only [r_mvs] at hrun
  have h1 := he x y hx
  split at hrun
  · rename_i l hb
    rw [hb] at h1
    cases hrun
    generalize hv : ρ x = v at h1
    cases h1 with
    | str s => exact ⟨.string s, w, .inl (by simp [execOp, ho, hv, convert, run_underlying hs, run_underlying ht]), Post.same hr (.str s)⟩
  · cases hrun
theorem sim_conv {s t : TypeId} {x : Operand} {y : Opd} (ho : o.op = .convert s t x) (hx : copd glob x = some y) (he : ORel g a ρ glob) (hr : R P top g h w) (call : Call) (E : Env) (hE : E.P = P)
    (hrun : r_conv s t y E call a h = .ok d h') : ∃ v w', Does P ρ o w v w' ∧ Post P top g h w d h' v w' := by
  simp only [r_conv] at hrun
  have h1 := he x y hx
  split at hrun
  · rename_i u hu
    split at hrun
    · rename_i v hv
      cases hrun
      rw [hE] at hv
      have hrv := val?_run hv w
      refine ⟨v, w, .inl ?_, Post.same hr (.of g v)⟩
      simp [execOp, ho, plain_eq hu h1, hrv]
    · cases hrun
  · cases hrun
theorem sim_un {op : UnOp} {t : TypeId} {x : Operand} {y : Opd} (ho : o.op = .unOp op t x) (hx : copd glob x = some y) (he : ORel g a ρ glob) (hr : R P top g h w) (call : Call) (E : Env) (hE : E.P = P)
    (hrun : r_un op y E call a h = .ok d h') : ∃ v w', Does P ρ o w v w' ∧ Post P top g h w d h' v w' := by
  simp only [r_un] at hrun
  have h1 := he x y hx
  split at hrun
  · rename_i b hb
    rw [hb] at h1
    cases hrun
    generalize hv : ρ x = v at h1
    cases h1
    exact ⟨.bool !b, w, .inl (by simp [execOp, ho, hv, Op.unary]), Post.same hr (.v _)⟩
  · split at hrun
    · rename_i u hu
      split at hrun
      · rename_i v hv
        cases hrun
        rw [hE] at hv
        have hrv := val?_run hv w
        refine ⟨v, w, .inl ?_, Post.same hr (.of g v)⟩
        simp [execOp, ho, plain_eq hu h1, hrv]
      · cases hrun
    · cases hrun
theorem sim_bi {b : Builtin} {c : Go.Call} {ys : List Opd} (ho : o.op = .call c) (hcal : c.callee = .builtin b) (hx : copds glob c.args.toList = some ys) (he : ORel g a ρ glob) (hr : R P top g h w) (call : Call) (E : Env) (hE : E.P = P)
    (hrun : r_bi b c.argTypes o.type (c.args.map fun | .const _ => true | _ => false) ys E call a h = .ok d h') : ∃ v w', Does P ρ o w v w' ∧ Post P top g h w d h' v w' := by
  simp only [r_bi] at hrun
  have h1 := he.evals hx
  split at hrun
  · rename_i vs hvs
    have hve := plains_eq hvs h1
    split at hrun
    · rename_i v hv
      cases hrun
      rw [hE] at hv
      have hrv := val?_run hv w
      refine ⟨v, w, .inl ?_, Post.same hr (.of g v)⟩
      have harr : c.args.map ρ = vs.toArray := Array.ext' (by simpa using hve)
      simp only [execOp, ho, resolve, hcal, invoke, Sem.run_bind, Sem.run_pure, Result.andThen_ok, harr]
      exact hrv
    · cases hrun
  · cases hrun

theorem quickBin_run {op : BinOp} {t : TypeId} {ox oy : Operand} {x y : D} {u v : Value} {d : D} (hq : quickBin op x y = some d) (hx : VRel g x u) (hy : VRel g y v) (w : World) :
    ∃ r, (do eqGuard op t ox oy u v; binOp op t u v : Sem Value).run P w = .ok r w ∧ VRel g d r := by
  cases hx <;> simp only [quickBin] at hq <;> try (cases hq; done)
  · cases hy <;> simp only at hq <;> try (cases hq; done)
    rename_i k a k' b
    cases op <;> simp only at hq <;> (first | (cases hq; done) | skip) <;> (
      by_cases hk : k = k'
      · subst hk
        simp only [decide_true, cond_true, Option.some.injEq] at hq
        subst hq
        first
          | exact ⟨_, by simp [eqGuard, binOp, Op.intArith, ← wrapF_eq], .int _ _⟩
          | (refine ⟨_, ?_, .v _⟩; simp [eqGuard, binOp, Op.intCmp]; done)
          | (refine ⟨_, ?_, .v _⟩; simp [eqGuard, binOp, Op.intCmp]; exact Bool.eq_iff_iff.2 (by simp))
      · simp [hk] at hq)
  · cases hy <;> simp only at hq <;> try (cases hq; done)
    rename_i s s'
    cases op <;> simp only at hq <;> (first | (cases hq; done) | skip)
    · cases hb : Nat.ble ((strD s).length + (strD s').length) 140737488355328 with
      | false => rw [hb] at hq; cases hq
      | true =>
        rw [hb] at hq
        simp only [cond_true, Option.some.injEq] at hq
        subst hq
        have h1 := Nat.le_of_ble_eq_true hb
        have e1 : (strD s).length = s.size := by simp [strD]
        have e2 : (strD s').length = s'.size := by simp [strD]
        rw [e1, e2] at h1
        have e3 : strD s ++ strD s' = strD (s ++ s') := by simp [strD]
        refine ⟨.string (s ++ s'), ?_, by rw [e3]; exact .str _⟩
        simp [eqGuard, binOp, Op.stringOp]
        omega
    · cases hq
      rw [beqL_eq]
      refine ⟨.bool (decide (strD s = strD s')), ?_, .v _⟩
      have : (s.toList == s'.toList) = decide (strD s = strD s') := by
        rw [ByteArray.toList_eq, ByteArray.toList_eq, Bool.eq_iff_iff]; simp [strD_inj, ByteArray.ext_iff]
      simp only [eqGuard, binOp, Op.stringOp, this]
      simp
    · cases hq
      rw [beqL_eq]
      refine ⟨.bool (!decide (strD s = strD s')), ?_, .v _⟩
      have : (s.toList == s'.toList) = decide (strD s = strD s') := by
        rw [ByteArray.toList_eq, ByteArray.toList_eq, Bool.eq_iff_iff]; simp [strD_inj, ByteArray.ext_iff]
      simp only [eqGuard, binOp, Op.stringOp, this]
      simp
end
end Go.Abs
