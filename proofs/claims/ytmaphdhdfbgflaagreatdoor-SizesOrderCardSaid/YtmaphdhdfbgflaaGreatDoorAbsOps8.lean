/- Each operation, in a world and on plain data: copy, type assertions, maps. -/
import Derived.Test.YtmaphdhdfbgflaaGreatDoorAbsOps7
set_option linter.unusedVariables false
namespace Go.Abs
section
variable {P : Program} {top : Nat} {glob : Nat → Option (List D)} {g : G} {h h' : H} {w : World} {a : AAct} {ρ : Operand → Value} {o : Oper} {d : D}

theorem sim_tas {t xt : TypeId} {u : TypeDesc} {x : Operand} {y : Opd} {z : D} {ok : Bool} (ho : o.op = .typeAssert x xt t ok) (hu : P.underlying t = some u) (hni : ∀ ms, u ≠ .interface ms) (hz : zero? P t = some z) (hx : copd glob x = some y) (he : ORel g a ρ glob) (hr : R P top g h w) (call : Call) (E : Env)
    (hrun : r_tas t z y ok E call a h = .ok d h') : ∃ v w', Does P ρ o w v w' ∧ Post P top g h w d h' v w' := by
  simp only [r_tas] at hrun
  obtain ⟨i, zv, hi, hzv, rfl, hzr⟩ := zero?_spec hz
  have h1 := he x y hx
  have tup2 : ∀ {p : D} {v : Value} {b : Bool}, VRel g p v → VRel g (.tup [p, .v (.bool b)]) (.tuple #[v, .bool b]) := fun hp => .tup' (.cons hp (.cons (.v _) (.nil _)))
  split at hrun
  · rename_i hb
    rw [hb] at h1
    cases ok with
    | false => cases hrun
    | true =>
      simp only [cond_true] at hrun
      cases hrun
      generalize hv : ρ x = v at h1
      cases h1
      refine ⟨.tuple #[zv, .bool false], w, .inl ?_, Post.same hr (tup2 (.of g zv))⟩
      simp only [execOp, ho, hv, Instr.typeAssert, Sem.run_bind, run_underlying hu, Result.andThen_ok]
      cases u <;> first | exact absurd rfl (hni _) | simp [hzr]
  · rename_i t' e hb
    rw [hb] at h1
    generalize hv : ρ x = v at h1
    cases h1 with
    | iface hd =>
      rename_i xv
      cases hq : Nat.beq t' t with
      | true =>
        rw [hq] at hrun
        simp only [cond_true] at hrun
        cases hrun
        have := Nat.eq_of_beq_eq_true hq
        subst this
        cases ok with
        | true =>
          refine ⟨.tuple #[xv, .bool true], w, .inl ?_, Post.same hr (tup2 hd)⟩
          simp only [execOp, ho, hv, Instr.typeAssert, Sem.run_bind, run_underlying hu, Result.andThen_ok]
          cases u <;> first | exact absurd rfl (hni _) | simp
        | false =>
          refine ⟨xv, w, .inl ?_, Post.same hr hd⟩
          simp only [execOp, ho, hv, Instr.typeAssert, Sem.run_bind, run_underlying hu, Result.andThen_ok]
          cases u <;> first | exact absurd rfl (hni _) | simp
      | false =>
        rw [hq] at hrun
        have hne : t' ≠ t := fun e0 => by subst e0; simp at hq
        cases ok with
        | false => cases hrun
        | true =>
          simp only [cond_true, cond_false] at hrun
          cases hrun
          refine ⟨.tuple #[zv, .bool false], w, .inl ?_, Post.same hr (tup2 (.of g zv))⟩
          simp only [execOp, ho, hv, Instr.typeAssert, Sem.run_bind, run_underlying hu, Result.andThen_ok]
          cases u <;> first | exact absurd rfl (hni _) | simp [hne, hzr]
  · cases hrun

theorem bytes_beq (s t : ByteArray) : (s == t) = decide (s = t) := by
  cases s; cases t
  rw [Bool.eq_iff_iff]
  simp only [decide_eq_true_eq, ByteArray.mk.injEq]
  rename_i x y
  show (x == y) = true ↔ x = y
  exact beq_iff_eq

/-- Entries, and what stands for them. -/
def Ents (g : G) (es : List (D × D)) (xs : List MapEntry) : Prop := es.length = xs.length ∧ ∀ (i : Nat) k d (e : MapEntry), es[i]? = some (k, d) → xs[i]? = some e → VRel g k e.key ∧ VRel g d e.val
theorem Ents.tail {g : G} {p : D × D} {e : MapEntry} {es : List (D × D)} {xs : List MapEntry} (h : Ents g (p :: es) (e :: xs)) : Ents g es xs :=
  ⟨by simpa using h.1, fun i k d e' h1 h2 => h.2 (i + 1) k d e' (by simpa using h1) (by simpa using h2)⟩
theorem keyKind_spec {t : TypeId} {kd : Nat} (h : keyKind P t = some kd) : ∃ u, P.underlying t = some u ∧ ((kd = 0 ∧ ∃ k, u = .int k) ∨ (kd = 1 ∧ u = .string) ∨ (kd = 2 ∧ u = .bool)) := by
  unfold keyKind at h
  split at h
  · rename_i k hu; cases h; exact ⟨_, hu, .inl ⟨rfl, _, rfl⟩⟩
  · rename_i hu; cases h; exact ⟨_, hu, .inr (.inl ⟨rfl, rfl⟩)⟩
  · rename_i hu; cases h; exact ⟨_, hu, .inr (.inr ⟨rfl, rfl⟩)⟩
  · cases h
theorem sameNow_sim {u : TypeDesc} {kd : Nat} (hk : (kd = 0 ∧ ∃ k, u = .int k) ∨ (kd = 1 ∧ u = .string) ∨ (kd = 2 ∧ u = .bool)) {k q : D} (hok : keyOk kd k = true) {b : Bool} (hs : sameKey1 k q = some b) {kv qv : Value} (hkv : VRel g k kv) (hqv : VRel g q qv) :
    Instr.sameNow u kv qv = some b ∧ (b = true → qv = kv ∧ Instr.sameBits 10000 qv kv = true) := by
  unfold sameKey1 at hs
  split at hs
  · rename_i j a j' a'
    cases hkv; cases hqv
    by_cases hj : j = j'
    · subst hj
      simp only [decide_true, cond_true, Option.some.injEq] at hs
      subst hs
      rcases hk with ⟨rfl, kk, rfl⟩ | ⟨rfl, rfl⟩ | ⟨rfl, rfl⟩
      · refine ⟨by simp [Instr.sameNow]; exact Bool.eq_iff_iff.2 (by simp), fun hb => ?_⟩
        have : a = a' := by simpa using hb
        subst this
        exact ⟨rfl, by simp [Instr.sameBits]⟩
      · simp [keyOk] at hok
      · simp [keyOk] at hok
    · simp [hj] at hs
  · rename_i a a'
    cases hkv; cases hqv
    rename_i s s'
    cases hs
    rcases hk with ⟨rfl, kk, rfl⟩ | ⟨rfl, rfl⟩ | ⟨rfl, rfl⟩
    · simp [keyOk] at hok
    · rw [beqL_eq]
      refine ⟨by simp [Instr.sameNow, strD_inj, bytes_beq], fun hb => ?_⟩
      have : s = s' := by simpa [strD_inj] using hb
      subst this
      exact ⟨rfl, by simp [Instr.sameBits, bytes_beq]⟩
    · simp [keyOk] at hok
  · rename_i a a'
    cases hkv; cases hqv
    cases hs
    rcases hk with ⟨rfl, kk, rfl⟩ | ⟨rfl, rfl⟩ | ⟨rfl, rfl⟩
    · simp [keyOk] at hok
    · simp [keyOk] at hok
    · refine ⟨by cases a <;> cases a' <;> rfl, fun hb => ?_⟩
      have : a = a' := by cases a <;> cases a' <;> simp_all
      subst this
      exact ⟨rfl, by simp [Instr.sameBits]⟩
  · cases hs
theorem findMap_sim {u : TypeDesc} {kd : Nat} (hk : (kd = 0 ∧ ∃ k, u = .int k) ∨ (kd = 1 ∧ u = .string) ∨ (kd = 2 ∧ u = .bool)) {k : D} (hok : keyOk kd k = true) {kv : Value} (hkv : VRel g k kv) :
    ∀ {es : List (D × D)} {xs : List MapEntry} {r : Option D} (off : Nat), Ents g es xs → findMap k es = some r →
      (r = none ∧ Instr.findNow u kv xs off = some none) ∨ ∃ d i v, r = some d ∧ Instr.findNow u kv xs off = some (some (i, v)) ∧ VRel g d v
  | [], xs, r, off, hE, hf => by
    have : xs = [] := List.eq_nil_of_length_eq_zero hE.1.symm
    subst this
    simp [findMap] at hf
    exact .inl ⟨hf.symm, rfl⟩
  | (q, e) :: es, [], r, off, hE, hf => by have := hE.1; simp at this
  | (q, e) :: es, x :: xs, r, off, hE, hf => by
    obtain ⟨h1, h2⟩ := hE.2 0 q e x rfl rfl
    simp only [findMap] at hf
    cases hs : sameKey1 k q with
    | none => rw [hs] at hf; cases hf
    | some b =>
      rw [hs] at hf
      have hn := sameNow_sim hk hok hs hkv h1
      cases b with
      | true =>
        cases hf
        exact .inr ⟨e, off, x.val, rfl, by simp [Instr.findNow, hn.1], h2⟩
      | false =>
        simp only at hf
        rcases findMap_sim hk hok hkv (off + 1) hE.tail hf with ⟨hr, hq⟩ | ⟨d, i, v, hr, hq, hv⟩
        · exact .inl ⟨hr, by simp [Instr.findNow, hn.1, hq]⟩
        · exact .inr ⟨d, i, v, hr, by simp [Instr.findNow, hn.1, hq], hv⟩
theorem setMap_sim {u : TypeDesc} {kd : Nat} (hk : (kd = 0 ∧ ∃ k, u = .int k) ∨ (kd = 1 ∧ u = .string) ∨ (kd = 2 ∧ u = .bool)) {k : D} (hok : keyOk kd k = true) {kv : Value} (hkv : VRel g k kv) {y : D} {yv : Value} (hy : VRel g y yv) :
    ∀ {es es' : List (D × D)} {xs : List MapEntry} (off : Nat), Ents g es xs → setMap k y es = some es' →
      (Instr.findNow u kv xs off = some none ∧ ∀ born, Ents g es' (xs ++ [{ key := kv, val := yv, born := born }])) ∨
      ∃ i v x, Instr.findNow u kv xs off = some (some (off + i, v)) ∧ xs[i]? = some x ∧ x.key = kv ∧ Instr.sameBits 10000 kv kv = true ∧ Ents g es' (xs.modify i fun e => { e with key := kv, val := yv })
  | [], es', xs, off, hE, hf => by
    have : xs = [] := List.eq_nil_of_length_eq_zero hE.1.symm
    subst this
    simp [setMap] at hf
    subst hf
    refine .inl ⟨rfl, fun born => ⟨by simp, fun i k' d' e h1 h2 => ?_⟩⟩
    cases i with
    | zero => simp at h1 h2; obtain ⟨rfl, rfl⟩ := h1; subst h2; exact ⟨hkv, hy⟩
    | succ i => simp at h1
  | (q, e) :: es, es', [], off, hE, hf => by have := hE.1; simp at this
  | (q, e) :: es, es', x :: xs, off, hE, hf => by
    obtain ⟨h1, h2⟩ := hE.2 0 q e x rfl rfl
    simp only [setMap] at hf
    cases hs : sameKey1 k q with
    | none => rw [hs] at hf; cases hf
    | some b =>
      rw [hs] at hf
      have hn := sameNow_sim hk hok hs hkv h1
      cases b with
      | true =>
        cases hf
        obtain ⟨hxk, hsb⟩ := hn.2 rfl
        refine .inr ⟨0, x.val, x, by simp [Instr.findNow, hn.1], rfl, hxk, by rw [hxk] at hsb; exact hsb, by simpa using hE.1, fun i k' d' e' h3 h4 => ?_⟩
        cases i with
        | zero => simp at h3 h4; obtain ⟨rfl, rfl⟩ := h3; subst h4; exact ⟨by rw [← hxk]; exact h1, hy⟩
        | succ i => simp at h3 h4; exact hE.2 (i + 1) k' d' e' (by simpa using h3) (by simpa using h4)
      | false =>
        simp only at hf
        split at hf
        · rename_i r hr
          cases hf
          have cons : ∀ {r : List (D × D)} {ys : List MapEntry}, Ents g r ys → Ents g ((q, e) :: r) (x :: ys) := fun hh => ⟨by simpa using hh.1, fun i k' d' e' h3 h4 => by
            cases i with
            | zero => simp at h3 h4; obtain ⟨rfl, rfl⟩ := h3; subst h4; exact ⟨h1, h2⟩
            | succ i => exact hh.2 i k' d' e' (by simpa using h3) (by simpa using h4)⟩
          rcases setMap_sim hk hok hkv hy (off + 1) hE.tail hr with ⟨hq, hall⟩ | ⟨i, v, x', hq, hx, hxk, hsb, hent⟩
          · exact .inl ⟨by simp [Instr.findNow, hn.1, hq], fun born => cons (hall born)⟩
          · refine .inr ⟨i + 1, v, x', by simp [Instr.findNow, hn.1, hq]; omega, by simpa using hx, hxk, hsb, ?_⟩
            have := cons hent
            simpa using this
        · cases hf

theorem checkKey_sim {kt : TypeId} {kd : Nat} {u : TypeDesc} (hu : P.underlying kt = some u) (hk : (kd = 0 ∧ ∃ k, u = .int k) ∨ (kd = 1 ∧ u = .string) ∨ (kd = 2 ∧ u = .bool)) (b : Bool) (kv : Value) (n : Nat) (w : World) :
    (Instr.checkKey b (n + 1) kt kv).run P w = .ok () w := by
  unfold Instr.checkKey
  simp only [Sem.run_bind, run_underlying hu, Result.andThen_ok]
  rcases hk with ⟨_, kk, rfl⟩ | ⟨_, rfl⟩ | ⟨_, rfl⟩ <;> rfl

/-- A look-up's end. -/
def lookCore (kt e : TypeId) (kv : Value) (ok : Bool) (xs : Array MapEntry) : Sem Value := do
  Instr.checkKey xs.isEmpty 10000 kt kv
  match ← Instr.findKey kt kv xs.toList with
  | some (_, v) => pure (if ok then .tuple #[v, .bool true] else v)
  | none => do
    let v ← zeroValue e
    pure (if ok then .tuple #[v, .bool false] else v)
theorem look_core {kt e : TypeId} {kd : Nat} {z : D} {k : D} {kv : Value} {ok : Bool} {es : List (D × D)} {xs : Array MapEntry} {r : Option D} {d : D} (hkd : keyKind P kt = some kd) (hz : zero? P e = some z) (hok : keyOk kd k = true) (hkv : VRel g k kv)
    (hE : Ents g es xs.toList) (hf : findMap k es = some r) (hd : d = match r with
      | some d => bif ok then .tup [d, .v (.bool true)] else d
      | none => bif ok then .tup [z, .v (.bool false)] else z) (w : World) : ∃ v, (lookCore kt e kv ok xs).run P w = .ok v w ∧ VRel g d v := by
  obtain ⟨u, hku, hkk⟩ := keyKind_spec hkd
  obtain ⟨i, zv, hi, hzv, rfl, hzr⟩ := zero?_spec hz
  have hck := checkKey_sim hku hkk xs.isEmpty kv 9999 w
  have tup2 : ∀ {p : D} {v : Value} {b : Bool}, VRel g p v → VRel g (.tup [p, .v (.bool b)]) (.tuple #[v, .bool b]) := fun hp => .tup' (.cons hp (.cons (.v _) (.nil _)))
  rcases findMap_sim hkk hok hkv 0 hE hf with ⟨rfl, hfn⟩ | ⟨d1, i1, v1, rfl, hfn, hv1⟩
  · subst hd
    refine ⟨if ok then .tuple #[zv, .bool false] else zv, ?_, ?_⟩
    · unfold lookCore
      simp only [Sem.run_bind]
      rw [show (10000 : Nat) = 9999 + 1 from rfl, hck]
      simp [Instr.findKey, run_underlying hku, hfn, hzr]
    · cases ok
      · exact .of g zv
      · exact tup2 (.of g zv)
  · subst hd
    refine ⟨if ok then .tuple #[v1, .bool true] else v1, ?_, ?_⟩
    · unfold lookCore
      simp only [Sem.run_bind]
      rw [show (10000 : Nat) = 9999 + 1 from rfl, hck]
      simp [Instr.findKey, run_underlying hku, hfn]
    · cases ok
      · exact hv1
      · exact tup2 hv1
theorem sim_look {t kt e : TypeId} {kd : Nat} {x k : Operand} {x' k' : Opd} {z : D} {ok : Bool} (ho : o.op = .lookup t x k ok) (hu : P.underlying t = some (.map kt e)) (hkd : keyKind P kt = some kd) (hz : zero? P e = some z)
    (hx : copd glob x = some x') (hk : copd glob k = some k') (he : ORel g a ρ glob) (hr : R P top g h w) (call : Call) (E : Env)
    (hrun : r_look kd z x' k' ok E call a h = .ok d h') : ∃ v w', Does P ρ o w v w' ∧ Post P top g h w d h' v w' := by
  simp only [r_look] at hrun
  have h1 := he x x' hx
  have h2 := he k k' hk
  cases hok : keyOk kd (a.eval k') with
  | false => rw [hok] at hrun; cases hrun
  | true =>
    rw [hok] at hrun
    simp only [cond_true] at hrun
    have fin : ∀ {es : List (D × D)} {xs : Array MapEntry}, Ents g es xs.toList → (Instr.lookup t (ρ x) (ρ k) ok).run P w = (lookCore kt e (ρ k) ok xs).run P w →
        (match findMap (a.eval k') es with
        | some (some d) => O.ok (bif ok then D.tup [d, .v (.bool true)] else d) h
        | some none => .ok (bif ok then D.tup [z, .v (.bool false)] else z) h
        | none => .fail "lookup: key") = .ok d h' → ∃ v w', Does P ρ o w v w' ∧ Post P top g h w d h' v w' := by
      intro es xs hE hl hm
      cases hf : findMap (a.eval k') es with
      | none => rw [hf] at hm; cases hm
      | some r =>
        rw [hf] at hm
        have fin2 : ∀ {d0 : D} {v : Value}, (lookCore kt e (ρ k) ok xs).run P w = .ok v w → VRel g d0 v → ∃ v w', Does P ρ o w v w' ∧ Post P top g h w d0 h v w' := by
          intro d0 v hv hvr
          rw [hv] at hl
          exact ⟨v, w, .inl (by simp only [execOp, ho, Sem.run_bind]; rw [hl]; rfl), Post.same hr hvr⟩
        cases r with
        | none =>
          cases hm
          obtain ⟨v, hv, hvr⟩ := look_core (ok := ok) hkd hz hok h2 hE hf rfl w
          exact fin2 hv hvr
        | some r =>
          cases hm
          obtain ⟨v, hv, hvr⟩ := look_core (ok := ok) hkd hz hok h2 hE hf rfl w
          exact fin2 hv hvr
    split at hrun
    · rename_i es hes
      split at hes
      · rename_i hq
        cases hes
        rw [hq] at h1
        generalize hv : ρ x = v at h1 fin
        cases h1
        refine fin (es := []) (xs := #[]) ⟨rfl, fun i k d e hh => by simp at hh⟩ ?_ hrun
        simp only [Instr.lookup, lookCore, Sem.run_bind, Sem.run_pure, run_underlying hu, Result.andThen_ok]
        congr 1
      · rename_i l hq
        split at hes
        · rename_i es' hm
          cases hes
          rw [hq] at h1
          generalize hv : ρ x = v at h1 fin
          cases h1 with
          | map hbl =>
            rename_i b
            obtain ⟨b', ob, h3, h4, h5⟩ := hr.obj l _ hm (by simp)
            rw [hbl] at h3
            cases h3
            cases h5 with
            | map hl hp =>
              rename_i ces clock
              refine fin (es := es) (xs := ces) ⟨by simpa using hl, fun i k d e hh hx => hp i k d e hh (by simpa using hx)⟩ ?_ hrun
              simp only [Instr.lookup, lookCore, Sem.run_bind, Sem.run_pure, run_underlying hu, Result.andThen_ok, getObj, Sem.run, h4]
              congr 1
        · cases hes
      · cases hes
    · cases hrun

theorem sim_mset {t kt e : TypeId} {kd : Nat} {m k x : Operand} {m' k' x' : Opd} (ho : o.op = .mapUpdate t m k x ∨ o.op = .insert t m k x) (hu : P.underlying t = some (.map kt e)) (hkd : keyKind P kt = some kd)
    (hm : copd glob m = some m') (hk : copd glob k = some k') (hx : copd glob x = some x') (he : ORel g a ρ glob) (hr : R P top g h w) (call : Call) (E : Env)
    (hrun : r_mset kd m' k' x' E call a h = .ok d h') : ∃ v w', Does P ρ o w v w' ∧ Post P top g h w d h' v w' := by
  simp only [r_mset] at hrun
  have h1 := he m m' hm
  have h2 := he k k' hk
  have h3 := he x x' hx
  obtain ⟨u, hku, hkk⟩ := keyKind_spec hkd
  split at hrun
  · rename_i l hq
    rw [hq] at h1
    cases hok : keyOk kd (a.eval k') with
    | false => rw [hok] at hrun; cases hrun
    | true =>
      rw [hok] at hrun
      simp only [cond_true] at hrun
      split at hrun
      · rename_i es hml
        split at hrun
        · rename_i es' hsm
          cases hrun
          generalize hv : ρ m = v at h1
          cases h1 with
          | map hbl =>
            rename_i b
            obtain ⟨b', ob, h4, h5, h6⟩ := hr.obj l _ hml (by simp)
            rw [hbl] at h4
            cases h4
            cases h6 with
            | map hl hp =>
              rename_i ces clock
              have hE : Ents g es ces.toList := ⟨by simpa using hl, fun i k d e hh hx => hp i k d e hh (by simpa using hx)⟩
              have hck := checkKey_sim hku hkk false (ρ k) 9999 w
              have hblt : b < w.heap.size := (Array.getElem?_eq_some_iff.1 h5).1
              have fin : ∀ (ob : Obj), (Instr.mapUpdate t (.map (some b)) (ρ k) (ρ x)).run P w = .ok () { w with heap := w.heap.setIfInBounds b ob } → Lies g (.map es') ob →
                  ∃ v w', Does P ρ o w v w' ∧ Post P top g h w undefD (h.put l (.map es')) v w' := by
                intro ob hrn hL
                obtain ⟨hE', hR'⟩ := hr.put (w' := { w with heap := w.heap.setIfInBounds b ob }) hml (by simp) hbl ⟨rfl, rfl, rfl, by simp, fun j hj hne => by simp; rw [Array.getElem?_setIfInBounds_ne (fun e0 => hne (by rw [e0]))]⟩ (by simp) (by simp [hblt]) hL
                refine ⟨undef, _, .inr ⟨?_, rfl⟩, g, hE', hR', .undef g⟩
                rcases ho with ho | ho <;> (simp only [execOp, ho, hv, Sem.run_bind]; rw [hrn]; rfl)
              rcases setMap_sim hkk hok h2 h3 0 hE hsm with ⟨hfn, hall⟩ | ⟨i, v, x0, hfn, hx0, hxk, hsb, hent⟩
              · refine fin (.map (ces.push { key := ρ k, val := ρ x, born := clock }) (clock + 1)) ?_ (.map ?_ ?_)
                · simp only [Instr.mapUpdate, Sem.run_bind, run_underlying hu, Result.andThen_ok, getObj, Sem.run, h5]
                  rw [show (10000 : Nat) = 9999 + 1 from rfl, hck]
                  simp [Instr.findKey, run_underlying hku, hfn, setObj, Sem.run, h5]
                · have := (hall clock).1; simpa using this
                · intro i k d e hh hx; exact (hall clock).2 i k d e hh (by rw [← Array.toList_push, Array.getElem?_toList]; exact hx)
              · refine fin (.map (ces.modify i fun e => { e with key := ρ k, val := ρ x }) clock) ?_ (.map ?_ ?_)
                · simp only [Instr.mapUpdate, Sem.run_bind, run_underlying hu, Result.andThen_ok, getObj, Sem.run, h5]
                  rw [show (10000 : Nat) = 9999 + 1 from rfl, hck]
                  have hx0' : ces[i]? = some x0 := by simpa using hx0
                  simp [Instr.findKey, run_underlying hku, hfn, hx0', hxk, Instr.keyThatStays, hsb, setObj, Sem.run, h5]
                · have := hent.1; simpa using this
                · intro j k d e hh hx; exact hent.2 j k d e hh (by rw [← Array.toList_modify, Array.getElem?_toList]; exact hx)
        · cases hrun
      · cases hrun
  · cases hrun
end
end Go.Abs
