/- Each operation, in a world and on plain data: maps whose keys are structs. -/
import Derived.Test.YtmaphdhdfbgflaaGreatDoorAbsOps8
set_option linter.unusedVariables false
namespace Go.Abs
section
variable {P : Program} {top : Nat} {glob : Nat → Option (List D)} {g : G} {h h' : H} {w : World} {a : AAct} {ρ : Operand → Value} {o : Oper} {d : D}

theorem structKey_spec {t : TypeId} (h : structKey P t = true) : ∃ fs, P.underlying t = some (.struct fs) := by
  unfold structKey at h
  split at h
  · rename_i fs hu; exact ⟨fs, hu⟩
  · cases h
theorem findKey_struct {kt : TypeId} {fs : Array Field} (hu : P.underlying kt = some (.struct fs)) (kv : Value) (xs : List MapEntry) (w : World) : (Instr.findKey kt kv xs).run P w = (Instr.findAsking kt kv xs).run P w := by
  unfold Instr.findKey
  simp only [Sem.run_bind, run_underlying hu, Result.andThen_ok]
  cases xs with
  | nil => rfl
  | cons x xs =>
    have : Instr.findNow (.struct fs) kv (x :: xs) 0 = none := by
      simp [Instr.findNow, Instr.sameNow]
    rw [this]
theorem findV_sim {kt : TypeId} {kv : Value} : ∀ {es : List (D × D)} {xs : List MapEntry} {r : Option D} (off : Nat), Ents g es xs → findV P kt kv es = some r →
    (r = none ∧ ∀ w, (Instr.findAsking kt kv xs off).run P w = .ok none w) ∨ ∃ d i v, r = some d ∧ (∀ w, (Instr.findAsking kt kv xs off).run P w = .ok (some (i, v)) w) ∧ VRel g d v
  | [], xs, r, off, hE, hf => by
    have : xs = [] := List.eq_nil_of_length_eq_zero hE.1.symm
    subst this
    simp [findV] at hf
    exact .inl ⟨hf.symm, fun w => rfl⟩
  | (q, e) :: es, [], r, off, hE, hf => by have := hE.1; simp at this
  | (q, e) :: es, x :: xs, r, off, hE, hf => by
    obtain ⟨h1, h2⟩ := hE.2 0 q e x rfl rfl
    simp only [findV] at hf
    split at hf
    · rename_i qv hq
      have hxk := plain_eq hq h1
      split at hf
      · rename_i hb
        cases hf
        refine .inr ⟨e, off, x.val, rfl, fun w => ?_, h2⟩
        simp [Instr.findAsking, Sem.run_bind, hxk, val?_run hb w]
      · rename_i hb
        have hstep : ∀ w, (Instr.findAsking kt kv (x :: xs) off).run P w = (Instr.findAsking kt kv xs (off + 1)).run P w := fun w => by
          simp [Instr.findAsking, Sem.run_bind, hxk, val?_run hb w]
        rcases findV_sim (off + 1) hE.tail hf with ⟨hr, hq⟩ | ⟨d, i, v, hr, hq, hv⟩
        · exact .inl ⟨hr, fun w => (hstep w).trans (hq w)⟩
        · exact .inr ⟨d, i, v, hr, fun w => (hstep w).trans (hq w), hv⟩
      · cases hf
    · cases hf
theorem setV_sim {kt : TypeId} {k : D} {kv : Value} (hkv : VRel g k kv) {y : D} {yv : Value} (hy : VRel g y yv) :
    ∀ {es es' : List (D × D)} {xs : List MapEntry} (off : Nat), Ents g es xs → setV P kt k kv y es = some es' →
      ((∀ w, (Instr.findAsking kt kv xs off).run P w = .ok none w) ∧ ∀ born, Ents g es' (xs ++ [{ key := kv, val := yv, born := born }])) ∨
      ∃ i v x, (∀ w, (Instr.findAsking kt kv xs off).run P w = .ok (some (off + i, v)) w) ∧ xs[i]? = some x ∧ Instr.sameBits 10000 x.key kv = true ∧ Ents g es' (xs.modify i fun e => { e with key := kv, val := yv })
  | [], es', xs, off, hE, hf => by
    have : xs = [] := List.eq_nil_of_length_eq_zero hE.1.symm
    subst this
    simp [setV] at hf
    subst hf
    refine .inl ⟨fun w => rfl, fun born => ⟨by simp, fun i k' d' e h1 h2 => ?_⟩⟩
    cases i with
    | zero => simp at h1 h2; obtain ⟨rfl, rfl⟩ := h1; subst h2; exact ⟨hkv, hy⟩
    | succ i => simp at h1
  | (q, e) :: es, es', [], off, hE, hf => by have := hE.1; simp at this
  | (q, e) :: es, es', x :: xs, off, hE, hf => by
    obtain ⟨h1, h2⟩ := hE.2 0 q e x rfl rfl
    simp only [setV] at hf
    split at hf
    · rename_i qv hq
      have hxk := plain_eq hq h1
      split at hf
      · rename_i hb
        cases hsb : Instr.sameBits 10000 qv kv with
        | false => rw [hsb] at hf; cases hf
        | true =>
          rw [hsb] at hf
          cases hf
          refine .inr ⟨0, x.val, x, fun w => ?_, rfl, by rw [hxk]; exact hsb, by simpa using hE.1, fun i k' d' e' h3 h4 => ?_⟩
          · simp [Instr.findAsking, Sem.run_bind, hxk, val?_run hb w]
          · cases i with
            | zero => simp at h3 h4; obtain ⟨rfl, rfl⟩ := h3; subst h4; exact ⟨hkv, hy⟩
            | succ i => simp at h3 h4; exact hE.2 (i + 1) k' d' e' (by simpa using h3) (by simpa using h4)
      · rename_i hb
        have hstep : ∀ w, (Instr.findAsking kt kv (x :: xs) off).run P w = (Instr.findAsking kt kv xs (off + 1)).run P w := fun w => by
          simp [Instr.findAsking, Sem.run_bind, hxk, val?_run hb w]
        split at hf
        · rename_i r hr
          cases hf
          have cons : ∀ {r : List (D × D)} {ys : List MapEntry}, Ents g r ys → Ents g ((q, e) :: r) (x :: ys) := fun hh => ⟨by simpa using hh.1, fun i k' d' e' h3 h4 => by
            cases i with
            | zero => simp at h3 h4; obtain ⟨rfl, rfl⟩ := h3; subst h4; exact ⟨h1, h2⟩
            | succ i => exact hh.2 i k' d' e' (by simpa using h3) (by simpa using h4)⟩
          rcases setV_sim hkv hy (off + 1) hE.tail hr with ⟨hq, hall⟩ | ⟨i, v, x', hq, hx, hsb, hent⟩
          · exact .inl ⟨fun w => (hstep w).trans (hq w), fun born => cons (hall born)⟩
          · refine .inr ⟨i + 1, v, x', fun w => by rw [hstep w, hq w, show off + 1 + i = off + (i + 1) by omega], by simpa using hx, hsb, ?_⟩
            have := cons hent
            simpa using this
        · cases hf
      · cases hf
    · cases hf

theorem sim_lookV {t kt e : TypeId} {x k : Operand} {x' k' : Opd} {z : D} {ok : Bool} (ho : o.op = .lookup t x k ok) (hu : P.underlying t = some (.map kt e)) (hsk : structKey P kt = true) (hz : zero? P e = some z)
    (hx : copd glob x = some x') (hk : copd glob k = some k') (he : ORel g a ρ glob) (hr : R P top g h w) (call : Call) (E : Env) (hEP : E.P = P)
    (hrun : r_lookV kt z x' k' ok E call a h = .ok d h') : ∃ v w', Does P ρ o w v w' ∧ Post P top g h w d h' v w' := by
  obtain ⟨fs, hku⟩ := structKey_spec hsk
  obtain ⟨i, zv, hi, hzv, rfl, hzr⟩ := zero?_spec hz
  have tup2 : ∀ {p : D} {v : Value} {b : Bool}, VRel g p v → VRel g (.tup [p, .v (.bool b)]) (.tuple #[v, .bool b]) := fun hp => .tup' (.cons hp (.cons (.v _) (.nil _)))
  subst hEP
  simp only [r_lookV] at hrun
  have h1 := he x x' hx
  have h2 := he k k' hk
  split at hrun
  · rename_i kv es hkp hes
    have hkv := plain_eq hkp h2
    have fin : ∀ {xs : Array MapEntry}, Ents g es xs.toList → (Instr.lookup t (ρ x) (ρ k) ok).run E.P w = (lookCore kt e (ρ k) ok xs).run E.P w → ∃ v w', Does E.P ρ o w v w' ∧ Post E.P top g h w d h' v w' := by
      intro xs hE hl
      have hemp : es.isEmpty = xs.isEmpty := by
        have := hE.1
        cases es with
        | nil => have h0 : xs = #[] := by simpa using this.symm
                 rw [h0]; rfl
        | cons p es => 
          have h0 : xs.size ≠ 0 := by simp at this; omega
          simp [Array.isEmpty, h0]
      rw [hkv] at hl
      have fin2 : ∀ {d0 : D} {v : Value}, (lookCore kt e kv ok xs).run E.P w = .ok v w → VRel g d0 v → ∃ v w', Does E.P ρ o w v w' ∧ Post E.P top g h w d0 h v w' := by
        intro d0 v hv hvr
        rw [hv] at hl
        exact ⟨v, w, .inl (by simp only [execOp, ho, Sem.run_bind]; rw [hkv, hl]; rfl), Post.same hr hvr⟩
      split at hrun
      · rename_i u0 d1 hck hf
        rw [hemp] at hck
        have hck' := val?_run hck w
        cases hrun
        rcases findV_sim 0 hE hf with ⟨hr0, _⟩ | ⟨d2, i1, v1, hr0, hfn, hv1⟩
        · cases hr0
        · cases hr0
          refine fin2 (v := if ok then .tuple #[v1, .bool true] else v1) ?_ ?_
          · unfold lookCore
            simp only [Sem.run_bind, hck', Result.andThen_ok, findKey_struct hku, hfn]
            simp
          · cases ok
            · exact hv1
            · exact tup2 hv1
      · rename_i u0 hck hf
        rw [hemp] at hck
        have hck' := val?_run hck w
        cases hrun
        rcases findV_sim 0 hE hf with ⟨_, hfn⟩ | ⟨d2, i1, v1, hr0, hfn, hv1⟩
        · refine fin2 (v := if ok then .tuple #[zv, .bool false] else zv) ?_ ?_
          · unfold lookCore
            simp only [Sem.run_bind, hck', Result.andThen_ok, findKey_struct hku, hfn]
            simp [hzr]
          · cases ok
            · exact .of g zv
            · exact tup2 (.of g zv)
        · cases hr0
      · cases hrun
    unfold mapAt at hes
    split at hes
    · rename_i hq
      cases hes
      rw [hq] at h1
      generalize hv : ρ x = v at h1 fin
      cases h1
      refine fin (xs := #[]) ⟨rfl, fun i k d e hh => by simp at hh⟩ ?_
      simp only [Instr.lookup, lookCore, Sem.run_bind, Sem.run_pure, run_underlying hu, Result.andThen_ok]
      congr 1
    · rename_i l hq
      split at hes
      · rename_i es' hm
        cases hes
        rw [hq] at h1
        generalize hv : ρ x = v at h1 fin
        cases h1 with
        | map hbl =>
          rename_i b
          obtain ⟨b', ob, h3, h4, h5⟩ := hr.obj l _ hm (by simp)
          rw [hbl] at h3
          cases h3
          cases h5 with
          | map hl hp =>
            rename_i ces clock
            refine fin (xs := ces) ⟨by simpa using hl, fun i k d e hh hx => hp i k d e hh (by simpa using hx)⟩ ?_
            simp only [Instr.lookup, lookCore, Sem.run_bind, Sem.run_pure, run_underlying hu, Result.andThen_ok, getObj, Sem.run, h4]
            congr 1
      · cases hes
    · cases hes
  · cases hrun

theorem sim_msetV {t kt e : TypeId} {m k x : Operand} {m' k' x' : Opd} (ho : o.op = .mapUpdate t m k x ∨ o.op = .insert t m k x) (hu : P.underlying t = some (.map kt e)) (hsk : structKey P kt = true)
    (hm : copd glob m = some m') (hk : copd glob k = some k') (hx : copd glob x = some x') (he : ORel g a ρ glob) (hr : R P top g h w) (call : Call) (E : Env) (hEP : E.P = P)
    (hrun : r_msetV kt m' k' x' E call a h = .ok d h') : ∃ v w', Does P ρ o w v w' ∧ Post P top g h w d h' v w' := by
  obtain ⟨fs, hku⟩ := structKey_spec hsk
  subst hEP
  simp only [r_msetV] at hrun
  have h1 := he m m' hm
  have h2 := he k k' hk
  have h3 := he x x' hx
  split at hrun
  · rename_i l kv hq hkp
    have hkv := plain_eq hkp h2
    rw [hq] at h1
    split at hrun
    · rename_i es hml
      split at hrun
      · rename_i u0 es' hck hsm
        have hck' := val?_run hck w
        cases hrun
        generalize hv : ρ m = v at h1
        cases h1 with
        | map hbl =>
          rename_i b
          obtain ⟨b', ob, h4, h5, h6⟩ := hr.obj l _ hml (by simp)
          rw [hbl] at h4
          cases h4
          cases h6 with
          | map hl hp =>
            rename_i ces clock
            have hE : Ents g es ces.toList := ⟨by simpa using hl, fun i k d e hh hx => hp i k d e hh (by simpa using hx)⟩
            have hblt : b < w.heap.size := (Array.getElem?_eq_some_iff.1 h5).1
            rw [hkv] at h2
            have fin : ∀ (ob : Obj), (Instr.mapUpdate t (.map (some b)) kv (ρ x)).run E.P w = .ok () { w with heap := w.heap.setIfInBounds b ob } → Lies g (.map es') ob →
                ∃ v w', Does E.P ρ o w v w' ∧ Post E.P top g h w undefD (h.put l (.map es')) v w' := by
              intro ob hrn hL
              obtain ⟨hE', hR'⟩ := hr.put (w' := { w with heap := w.heap.setIfInBounds b ob }) hml (by simp) hbl ⟨rfl, rfl, rfl, by simp, fun j hj hne => by simp; rw [Array.getElem?_setIfInBounds_ne (fun e0 => hne (by rw [e0]))]⟩ (by simp) (by simp [hblt]) hL
              refine ⟨undef, _, .inr ⟨?_, rfl⟩, g, hE', hR', .undef g⟩
              rcases ho with ho | ho <;> (simp only [execOp, ho, hv, Sem.run_bind]; rw [hkv, hrn]; rfl)
            rcases setV_sim h2 h3 0 hE hsm with ⟨hfn, hall⟩ | ⟨i, v, x0, hfn, hx0, hsb, hent⟩
            · refine fin (.map (ces.push { key := kv, val := ρ x, born := clock }) (clock + 1)) ?_ (.map ?_ ?_)
              · simp only [Instr.mapUpdate, Sem.run_bind, run_underlying hu, Result.andThen_ok, getObj, Sem.run, h5]
                rw [hck']
                simp [findKey_struct hku, hfn, setObj, Sem.run, h5]
              · have := (hall clock).1; simpa using this
              · intro i k d e hh hx; exact (hall clock).2 i k d e hh (by rw [← Array.toList_push, Array.getElem?_toList]; exact hx)
            · refine fin (.map (ces.modify i fun e => { e with key := kv, val := ρ x }) clock) ?_ (.map ?_ ?_)
              · simp only [Instr.mapUpdate, Sem.run_bind, run_underlying hu, Result.andThen_ok, getObj, Sem.run, h5]
                rw [hck']
                have hx0' : ces[i]? = some x0 := by simpa using hx0
                simp [findKey_struct hku, hfn, hx0', Instr.keyThatStays, hsb, setObj, Sem.run, h5]
              · have := hent.1; simpa using this
              · intro j k d e hh hx; exact hent.2 j k d e hh (by rw [← Array.toList_modify, Array.getElem?_toList]; exact hx)
      · cases hrun
    · cases hrun
  · cases hrun
end
end Go.Abs
