/- Each operation, in a world and on plain data: comparisons, parts, places. -/
import Derived.Test.YtmaphdhdfbgflaaGreatDoorAbsOps2
import Derived.Lib.ConvBytes
import Derived.Laws.BytesString
set_option linter.unusedVariables false
namespace Go.Abs
section
variable {P : Program} {top : Nat} {glob : Nat → Option (List D)} {g : G} {h h' : H} {w : World} {a : AAct} {ρ : Operand → Value} {o : Oper} {d : D}

theorem nilEq_equal {t : TypeId} {x y : D} {u v : Value} {b : Bool} (hq : nilEq (P.underlying t) x y = some b) (hx : VRel g x u) (hy : VRel g y v) (w : World) (n : Nat) :
    (Op.equalIn (n + 1) t u v).run P w = .ok b w := by
  unfold nilEq at hq
  generalize hu : P.underlying t = un at hq
  split at hq <;> (first | (cases hq; done) | skip)
  all_goals
    cases hq
    cases hx
    cases hy
    simp [Op.equalIn, run_underlying hu]
theorem nilEq_run {t : TypeId} {ox oy : Operand} {x y : D} {u v : Value} {b : Bool} (hq : nilEq (P.underlying t) x y = some b) (hx : VRel g x u) (hy : VRel g y v) (w : World) :
    (do eqGuard .eql t ox oy u v; binOp .eql t u v : Sem Value).run P w = .ok (.bool b) w ∧ (do eqGuard .neq t ox oy u v; binOp .neq t u v : Sem Value).run P w = .ok (.bool !b) w := by
  have key : (Op.equal t u v).run P w = .ok b w := nilEq_equal hq hx hy w 9999
  unfold nilEq at hq
  generalize hu : P.underlying t = un at hq
  split at hq <;> (first | (cases hq; done) | skip)
  all_goals
    cases hq
    cases hx
    cases hy
    constructor <;> simp [eqGuard, binOp, key]

theorem sim_bin {op : BinOp} {t yt : TypeId} {x z : Operand} {y u : Opd} (ho : o.op = .binOp op t x z yt) (hx : copd glob x = some y) (hz : copd glob z = some u) (he : ORel g a ρ glob) (hr : R P top g h w) (call : Call) (E : Env) (hE : E.P = P)
    (hrun : r_bin op t x z y u E call a h = .ok d h') : ∃ v w', Does P ρ o w v w' ∧ Post P top g h w d h' v w' := by
  simp only [r_bin, ok?] at hrun
  split at hrun
  · rename_i e hb
    cases hrun
    unfold binD at hb
    have h1 := he x y hx
    have h2 := he z u hz
    have key : ∃ r, (do eqGuard op t x z (ρ x) (ρ z); binOp op t (ρ x) (ρ z) : Sem Value).run P w = .ok r w ∧ VRel g d r := by
      split at hb
      · rename_i e hq
        cases hb
        exact quickBin_run hq h1 h2 w
      · split at hb
        · rename_i p q hp hq'
          split at hb
          · rename_i v hv
            cases hb
            rw [hE] at hv
            rw [plain_eq hp h1, plain_eq hq' h2]
            exact ⟨v, val?_run hv w, .of g v⟩
          · cases hb
        · rw [hE] at hb
          cases hn : nilEq (P.underlying t) (a.eval y) (a.eval u) with
          | none => rw [hn] at hb; cases op <;> cases hb
          | some b =>
            rw [hn] at hb
            have hk := nilEq_run (ox := x) (oy := z) hn h1 h2 w
            cases op <;> (first | (cases hb; done) | skip)
            · cases hb; exact ⟨.bool b, hk.1, .v _⟩
            · cases hb; exact ⟨.bool !b, hk.2, .v _⟩
    obtain ⟨r, hrr, hvr⟩ := key
    refine ⟨r, w, .inl ?_, Post.same hr hvr⟩
    simp only [execOp, ho]
    rw [Sem.run_bind, hrr]
    rfl
  · cases hrun

theorem part_run {t : TypeId} {ag : Bool} {n off : Nat} {cs : List D} {vs : Array Value} {d : D} (ha : isAgg? P t = some ag) (hn : size? P t = some n) (hv : VRels g cs vs.toList) (hp : partD ag n cs off = some d) (w : World) :
    ∃ v, (part t vs off).run P w = .ok v w ∧ VRel g d v := by
  obtain ⟨i, hi, his, hic, hsz⟩ := size?_spec hn
  have hag := isAgg?_spec ha
  unfold partD at hp
  cases ag with
  | true =>
    simp only [cond_true] at hp
    cases hq : Nat.beq (List.take n (List.drop off cs)).length n with
    | false => rw [hq] at hp; cases hp
    | true =>
      rw [hq] at hp
      simp only [cond_true, Option.some.injEq] at hp
      subst hp
      refine ⟨.agg (vs.extract off (off + n)), by simp [part, hag, hsz], .agg' ?_⟩
      have := (hv.drop off).take n
      have he : (vs.extract off (off + n)).toList = (vs.toList.drop off).take n := by
        rw [Array.toList_extract, List.extract_eq_take_drop]; congr 1; omega
      rw [he]; exact this
  | false =>
    simp only [cond_false] at hp
    split at hp
    · rename_i e r hc
      cases hp
      have hce : cs[off]? = some d := by
        have : (cs.drop off)[0]? = some d := by rw [hc]; rfl
        rw [List.getElem?_drop] at this
        simpa using this
      obtain ⟨v, hv1, hv2⟩ := hv.some hce
      refine ⟨v, ?_, hv2⟩
      have : vs[off]? = some v := by simpa using hv1
      simp [part, hag, this]
    · cases hp

theorem sim_fld {t : TypeId} {fs : Array Field} {f : Field} {i n : Nat} {ag : Bool} {x : Operand} {y : Opd} (ho : o.op = .field t x i) (hu : P.underlying t = some (.struct fs)) (hf : fs[i]? = some f) (ha : isAgg? P f.type = some ag) (hn : size? P f.type = some n)
    (hx : copd glob x = some y) (he : ORel g a ρ glob) (hr : R P top g h w) (call : Call) (E : Env) (hrun : r_fld ag f.offset n y E call a h = .ok d h') : ∃ v w', Does P ρ o w v w' ∧ Post P top g h w d h' v w' := by
  simp only [r_fld, ok?] at hrun
  have h1 := he x y hx
  split at hrun
  · rename_i cs hb
    rw [hb] at h1
    split at hrun
    · rename_i e hp
      cases hrun
      generalize hv : ρ x = v at h1
      cases h1 with
      | agg hl hpw =>
        rename_i us
        obtain ⟨r, hr1, hr2⟩ := part_run (P := P) (vs := us) ha hn ⟨by simpa using hl, fun i d v hd hu => hpw i d v hd (by simpa using hu)⟩ hp w
        refine ⟨r, w, .inl ?_, Post.same hr hr2⟩
        simp [execOp, ho, hv, Instr.field, run_underlying hu, hf, asAgg, hr1]
    · cases hrun
  · cases hrun

theorem inRange_spec {i : D} {n k : Nat} (hi : inRange i n = some k) {v : Value} (hv : VRel g i v) : ∃ kk, v = .int kk (k : Int) ∧ k < n := by
  unfold inRange at hi
  split at hi
  · rename_i kk m
    cases hb : Nat.blt m n with
    | false => rw [hb] at hi; cases hi
    | true =>
      rw [hb] at hi
      simp only [cond_true, Option.some.injEq] at hi
      subst hi
      cases hv
      exact ⟨kk, rfl, by have : m + 1 ≤ n := by simpa [Nat.blt] using hb
                         omega⟩
  · cases hi

theorem sim_idxa {t e : TypeId} {n sz : Nat} {ag : Bool} {x i : Operand} {y u : Opd} (ho : o.op = .index t x i) (hu : P.underlying t = some (.array n e)) (ha : isAgg? P e = some ag) (hn : size? P e = some sz)
    (hx : copd glob x = some y) (hi : copd glob i = some u) (he : ORel g a ρ glob) (hr : R P top g h w) (call : Call) (E : Env) (hrun : r_idxa ag n sz y u E call a h = .ok d h') : ∃ v w', Does P ρ o w v w' ∧ Post P top g h w d h' v w' := by
  simp only [r_idxa, ok?] at hrun
  have h1 := he x y hx
  have h2 := he i u hi
  split at hrun
  · rename_i cs k hb hk
    rw [hb] at h1
    obtain ⟨kk, hkv, hkn⟩ := inRange_spec hk h2
    split at hrun
    · rename_i e' hp
      cases hrun
      generalize hv : ρ x = v at h1
      cases h1 with
      | agg hl hpw =>
        rename_i us
        obtain ⟨r, hr1, hr2⟩ := part_run (P := P) (vs := us) ha hn ⟨by simpa using hl, fun i d v hd hu => hpw i d v hd (by simpa using hu)⟩ hp w
        obtain ⟨ii, hii, his, hic, hsz⟩ := size?_spec hn
        refine ⟨r, w, .inl ?_, Post.same hr hr2⟩
        simp [execOp, ho, hv, hkv, Instr.index, asIntOf, run_underlying hu, hkn, hsz, hr1]
    · cases hrun
  · cases hrun

theorem sim_fa {t : TypeId} {fs : Array Field} {f : Field} {i n : Nat} {x : Operand} {y : Opd} (ho : o.op = .fieldAddr t x i) (hu : P.underlying t = some (.struct fs)) (hf : fs[i]? = some f) (hn : size? P f.type = some n) (hn0 : n ≠ 0)
    (hx : copd glob x = some y) (he : ORel g a ρ glob) (hr : R P top g h w) (call : Call) (E : Env) (hrun : r_fa f.offset y E call a h = .ok d h') : ∃ v w', Does P ρ o w v w' ∧ Post P top g h w d h' v w' := by
  simp only [r_fa] at hrun
  have h1 := he x y hx
  obtain ⟨ii, hii, his, hic, hsz⟩ := size?_spec hn
  split at hrun
  · rename_i l off hb
    rw [hb] at h1
    cases hrun
    generalize hv : ρ x = v at h1
    cases h1 with
    | ptr hbl =>
      rename_i b
      refine ⟨.pointer (some ⟨b, off + f.offset, none⟩), w, .inl ?_, Post.same hr (.ptr hbl)⟩
      simp [execOp, ho, hv, Instr.fieldAt, Instr.sureAddr, run_underlying hu, hf, fieldPlace, hsz, hn0, add_plain]
  · rename_i cs hb
    rw [hb] at h1
    cases hrun
    generalize hv : ρ x = v at h1
    cases h1 with
    | ep hi =>
      rename_i b off
      refine ⟨.pointer (some ⟨b, off + f.offset, none⟩), w, .inl ?_, Post.same hr (.ep fun i d hd => ?_)⟩
      · simp [execOp, ho, hv, Instr.fieldAt, Instr.sureAddr, run_underlying hu, hf, fieldPlace, hsz, hn0, add_plain]
      · rw [List.getElem?_drop] at hd
        rw [Nat.add_assoc]; exact hi _ d hd
  · cases hrun

theorem sim_ixa {t e : TypeId} {n sz : Nat} {x i : Operand} {y u : Opd} (ho : o.op = .indexAddr t x i) (hu : P.underlying t = some (.array n e)) (hn : size? P e = some sz)
    (hx : copd glob x = some y) (hi : copd glob i = some u) (he : ORel g a ρ glob) (hr : R P top g h w) (call : Call) (E : Env) (hrun : r_ixa n sz y u E call a h = .ok d h') : ∃ v w', Does P ρ o w v w' ∧ Post P top g h w d h' v w' := by
  simp only [r_ixa, ok?] at hrun
  have h1 := he x y hx
  have h2 := he i u hi
  obtain ⟨ii, hii, his, hic, hsz⟩ := size?_spec hn
  split at hrun
  · rename_i e' hp
    cases hrun
    unfold indexArrD at hp
    split at hp
    · rename_i k l off hk hb
      cases hp
      rw [hb] at h1
      obtain ⟨kk, hkv, hkn⟩ := inRange_spec hk h2
      generalize hv : ρ x = v at h1
      cases h1 with
      | ptr hbl =>
        rename_i b
        refine ⟨.pointer (some ⟨b, off + k * sz, none⟩), w, .inl ?_, Post.same hr (.ptr hbl)⟩
        simp [execOp, ho, hv, hkv, Instr.indexAt, Instr.sureAddr, asIntOf, run_underlying hu, hkn, hsz, add_plain]
    · rename_i k cs hk hb
      cases hp
      rw [hb] at h1
      obtain ⟨kk, hkv, hkn⟩ := inRange_spec hk h2
      generalize hv : ρ x = v at h1
      cases h1 with
      | ep hi' =>
        rename_i b off
        refine ⟨.pointer (some ⟨b, off + k * sz, none⟩), w, .inl ?_, Post.same hr (.ep fun i d hd => ?_)⟩
        · simp [execOp, ho, hv, hkv, Instr.indexAt, Instr.sureAddr, asIntOf, run_underlying hu, hkn, hsz, add_plain]
        · rw [List.getElem?_drop] at hd
          rw [Nat.add_assoc]; exact hi' _ d hd
    · cases hp
  · cases hrun

theorem sim_ixs {t e : TypeId} {sz : Nat} {x i : Operand} {y u : Opd} (ho : o.op = .indexAddr t x i) (hu : P.underlying t = some (.slice e)) (hn : size? P e = some sz)
    (hx : copd glob x = some y) (hi : copd glob i = some u) (he : ORel g a ρ glob) (hr : R P top g h w) (call : Call) (E : Env) (hrun : r_ixs sz y u E call a h = .ok d h') : ∃ v w', Does P ρ o w v w' ∧ Post P top g h w d h' v w' := by
  simp only [r_ixs, ok?] at hrun
  have h1 := he x y hx
  have h2 := he i u hi
  obtain ⟨ii, hii, his, hic, hsz⟩ := size?_spec hn
  split at hrun
  · rename_i e' hp
    cases hrun
    unfold indexSlD at hp
    split at hp
    · rename_i id n cs hb
      split at hp
      · rename_i k hk
        split at hp
        · cases hp
        · rename_i c r hdr
          cases hp
          rw [hb] at h1
          obtain ⟨kk, hkv, hkn⟩ := inRange_spec hk h2
          generalize hv : ρ x = v at h1
          cases h1 with
          | sl hcap hcs hid =>
            rename_i ad cap
            have hsp : ad.spot = none := by
              have : (cs.drop (k * sz))[0]? = some c := by rw [hdr]; rfl
              rw [List.getElem?_drop] at this
              exact (hcs _ _ this).1
            obtain ⟨bb, oo, sp⟩ := ad
            simp only at hsp
            subst hsp
            refine ⟨.pointer (some ⟨bb, oo + k * sz, none⟩), w, .inl ?_, Post.same hr (.ep fun i d hd => ?_)⟩
            · simp [execOp, ho, hv, hkv, Instr.indexAt, Instr.sureAddr, asIntOf, run_underlying hu, hkn, hsz, add_plain]
            · rw [← hdr, List.getElem?_drop] at hd
              rw [Nat.add_assoc]; exact (hcs _ d hd).2
      · cases hp
    · rename_i l off n cap hb
      split at hp
      · rename_i k hk
        cases hp
        rw [hb] at h1
        obtain ⟨kk, hkv, hkn⟩ := inRange_spec hk h2
        generalize hv : ρ x = v at h1
        cases h1 with
        | row hbl =>
          rename_i b
          refine ⟨.pointer (some ⟨b, off + k * sz, none⟩), w, .inl ?_, Post.same hr (.ptr hbl)⟩
          simp [execOp, ho, hv, hkv, Instr.indexAt, Instr.sureAddr, asIntOf, run_underlying hu, hkn, hsz, add_plain]
      · cases hp
    · cases hp
  · cases hrun
end
end Go.Abs
