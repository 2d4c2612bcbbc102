/- Each operation, in a world and on plain data: lengths, conversions, growth. -/
import Derived.Test.YtmaphdhdfbgflaaGreatDoorAbsOps5
import Derived.Laws.MakeOwn
set_option linter.unusedVariables false
namespace Go.Abs
section
variable {P : Program} {top : Nat} {glob : Nat → Option (List D)} {g : G} {h h' : H} {w : World} {a : AAct} {ρ : Operand → Value} {o : Oper} {d : D}

/-- What a slice holds, in a world. -/
theorem sliceCells_sim (hr : R P top g h w) {size n : Nat} {x : D} {cs : List D} (hc : sliceCells h size x = some (n, cs)) {v : Value} (hx : VRel g x v) :
    (v = .slice none 0 0 ∧ n = 0 ∧ cs = []) ∨ ∃ ad cap vs, v = .slice (some ad) n cap ∧ VRels g cs vs ∧ cs.length = n * size ∧ (∀ j u, vs[j]? = some u → w.cell? (ad.add j) = some u) := by
  unfold sliceCells at hc
  split at hc
  · cases hc; cases hx; exact .inl ⟨rfl, rfl, rfl⟩
  · rename_i id k ds
    cases hb : Nat.beq ds.length (k * size) with
    | false => rw [hb] at hc; cases hc
    | true =>
      rw [hb] at hc
      cases hc
      cases hx with
      | sl hcap hcs hid =>
        rename_i ad cap
        have hex : ∀ j (hj : j < cs.length), ∃ v, w.cell? (ad.add j) = some v ∧ VRel g cs[j] v := fun j hj => by
          obtain ⟨hsp, hi⟩ := hcs j cs[j] (List.getElem?_eq_getElem hj)
          obtain ⟨bb, oo, sp⟩ := ad
          simp only at hsp
          subst hsp
          rw [add_plain]
          exact hr.imm _ _ _ hi
        refine .inr ⟨ad, cap, (List.range cs.length).map fun j => (w.cell? (ad.add j)).getD default, rfl, ⟨by simp, fun j d v hd hv => ?_⟩, Nat.eq_of_beq_eq_true hb, fun j u hj => ?_⟩
        · have hj : j < cs.length := (List.getElem?_eq_some_iff.1 hd).1
          obtain ⟨v', h2, h3⟩ := hex j hj
          rw [List.getElem?_eq_getElem hj] at hd
          cases hd
          simp [hj, h2] at hv
          subst hv
          exact h3
        · have hjn : j < cs.length := by have := (List.getElem?_eq_some_iff.1 hj).1; simpa using this
          obtain ⟨v', h2, h3⟩ := hex j hjn
          simp [hjn, h2] at hj
          subst hj
          exact h2
  · rename_i l off len cap
    split at hc
    · rename_i ds hq
      cases hc
      cases hx with
      | row hbl =>
        rename_i b
        obtain ⟨b', o', vs, h1, h2, h3, h4⟩ := readCells_sim hr hq (.ptr hbl)
        cases h1
        exact .inr ⟨⟨b, off, none⟩, cap, vs, rfl, h2, h2.1.trans h3, fun j u hj => by rw [add_plain]; exact h4 j u hj⟩
    · cases hc
  · cases hc

theorem sim_lens {c : Go.Call} {x : Operand} {t : TypeId} {y : Opd} (ho : o.op = .call c) (hcal : c.callee = .builtin .len) (hargs : c.args.toList = [x]) (htys : c.argTypes.toList = [t]) (hu : P.underlying t = some .string)
    (hx : copd glob x = some y) (he : ORel g a ρ glob) (hr : R P top g h w) (call : Call) (E : Env)
    (hrun : r_lens y E call a h = .ok d h') : ∃ v w', Does P ρ o w v w' ∧ Post P top g h w d h' v w' := by
  simp only [r_lens] at hrun
  have h1 := he x y hx
  have ea : c.args = #[x] := Array.ext' hargs
  have et : c.argTypes = #[t] := Array.ext' htys
  split at hrun
  · rename_i l hb
    rw [hb] at h1
    cases hrun
    generalize hv : ρ x = v at h1
    cases h1 with
    | str s =>
      have hsz : (strD s).length = s.size := by simp [strD]
      refine ⟨.int .i64 s.size, w, .inl ?_, Post.same hr (by rw [hsz]; exact .int _ _)⟩
      simp [execOp, ho, resolve, hcal, invoke, builtin, ea, et, hv, Builtin.len_, run_underlying hu, goInt]
  · cases hrun
theorem sim_len {c : Go.Call} {x : Operand} {t e : TypeId} {y : Opd} (ho : o.op = .call c) (hcal : c.callee = .builtin .len) (hargs : c.args.toList = [x]) (htys : c.argTypes.toList = [t]) (hu : P.underlying t = some (.slice e))
    (hx : copd glob x = some y) (he : ORel g a ρ glob) (hr : R P top g h w) (call : Call) (E : Env)
    (hrun : r_len y E call a h = .ok d h') : ∃ v w', Does P ρ o w v w' ∧ Post P top g h w d h' v w' := by
  simp only [r_len] at hrun
  have h1 := he x y hx
  have ea : c.args = #[x] := Array.ext' hargs
  have et : c.argTypes = #[t] := Array.ext' htys
  split at hrun
  · rename_i id n cs hb
    rw [hb] at h1
    cases hrun
    generalize hv : ρ x = v at h1
    cases h1
    refine ⟨.int .i64 n, w, .inl ?_, Post.same hr (.int _ _)⟩
    simp [execOp, ho, resolve, hcal, invoke, builtin, ea, et, hv, Builtin.len_, run_underlying hu, goInt]
  · rename_i l off n cap hb
    rw [hb] at h1
    cases hrun
    generalize hv : ρ x = v at h1
    cases h1
    refine ⟨.int .i64 n, w, .inl ?_, Post.same hr (.int _ _)⟩
    simp [execOp, ho, resolve, hcal, invoke, builtin, ea, et, hv, Builtin.len_, run_underlying hu, goInt]
  · rename_i hb
    rw [hb] at h1
    cases hrun
    generalize hv : ρ x = v at h1
    cases h1
    refine ⟨.int .i64 0, w, .inl ?_, Post.same hr (.int _ _)⟩
    simp [execOp, ho, resolve, hcal, invoke, builtin, ea, et, hv, Builtin.len_, run_underlying hu, goInt]
  · cases hrun
theorem sim_lenm {c : Go.Call} {x : Operand} {t k e : TypeId} {y : Opd} (ho : o.op = .call c) (hcal : c.callee = .builtin .len) (hargs : c.args.toList = [x]) (htys : c.argTypes.toList = [t]) (hu : P.underlying t = some (.map k e))
    (hx : copd glob x = some y) (he : ORel g a ρ glob) (hr : R P top g h w) (call : Call) (E : Env)
    (hrun : r_lenm y E call a h = .ok d h') : ∃ v w', Does P ρ o w v w' ∧ Post P top g h w d h' v w' := by
  simp only [r_lenm] at hrun
  have h1 := he x y hx
  have ea : c.args = #[x] := Array.ext' hargs
  have et : c.argTypes = #[t] := Array.ext' htys
  split at hrun
  · rename_i l hb
    rw [hb] at h1
    split at hrun
    · rename_i es hm
      cases hrun
      generalize hv : ρ x = v at h1
      cases h1 with
      | map hbl =>
        rename_i b
        obtain ⟨b', ob, h2, h3, h4⟩ := hr.obj l _ hm (by simp)
        rw [hbl] at h2
        cases h2
        cases h4 with
        | map hl hp =>
          rename_i ces clock
          refine ⟨.int .i64 es.length, w, .inl ?_, Post.same hr (.int _ _)⟩
          simp [execOp, ho, resolve, hcal, invoke, builtin, ea, et, hv, Builtin.len_, run_underlying hu, goInt, getObj, Sem.run, h3, hl]
    · cases hrun
  · cases hrun

theorem sim_s2b {s t e : TypeId} {x : Operand} {y : Opd} (ho : o.op = .convert s t x) (hs : P.underlying s = some .string) (ht : P.underlying t = some (.slice e)) (hte : P.underlying e = some (.int .u8)) (hx : copd glob x = some y) (he : ORel g a ρ glob) (hr : R P top g h w) (call : Call) (E : Env)
    (hrun : r_s2b e y E call a h = .ok d h') : ∃ v w', Does P ρ o w v w' ∧ Post P top g h w d h' v w' := by
  simp only [r_s2b] at hrun
  have h1 := he x y hx
  split at hrun
  · rename_i l hb
    rw [hb] at h1
    cases hrun
    generalize hv : ρ x = v at h1
    cases h1 with
    | str b =>
      have hrn := Lib.run_convert_string_bytes (P := P) w s t e b hs ht hte
      have hsz : (strD b).length = b.size := by simp [strD]
      have hg : w.grownBy (Lib.bytesWorld w e b) none := ⟨rfl, rfl, rfl, by rw [Lib.bytesWorld_size]; omega, fun k hk _ => Lib.bytesWorld_at_old w e b k hk⟩
      have hds : VRels g (bytesD (strD b)) (b.data.toList.map fun c => .int .u8 c.toNat) := by
        refine ⟨by simp [bytesD, strD], fun i d v hd hu => ?_⟩
        simp only [bytesD, strD, List.map_map, List.getElem?_map] at hd hu
        cases hq : b.data.toList[i]? with
        | none => rw [hq] at hd; cases hd
        | some c => rw [hq] at hd hu; cases hd; cases hu; exact .int _ _
      obtain ⟨g', hE, hR, hI⟩ := hr.immNew hg (Nat.le_refl _) (ds := bytesD (strD b)) (xs := b.data.toList.map fun c => .int .u8 c.toNat) (fun j v hj => by
        have hjl : j < b.size := by have := (List.getElem?_eq_some_iff.1 hj).1; simpa using this
        rw [Lib.bytesWorld_cell w e b j hjl]
        rw [List.getElem?_map] at hj
        cases hq : b.data.toList[j]? with
        | none => rw [hq] at hj; cases hj
        | some c => rw [hq] at hj; cases hj; simp [List.getD, hq]) hds
      refine ⟨.slice (some ⟨w.heap.size, 0, none⟩) b.size (grownCap w b.size 0 e), Lib.bytesWorld w e b, .inl ?_, g', hE, hR, ?_⟩
      · simp [execOp, ho, hv, hrn]
      · rw [hsz]
        exact .sl (grownCap_ge _ _ _ _) (fun i d hd => ⟨rfl, by rw [Nat.zero_add]; exact hI i d hd⟩) (fun h0 => absurd rfl h0)
  · cases hrun

theorem bytesOf_spec : ∀ {cs : List D} {l : List Nat}, bytesOf cs = some l → cs = l.map (fun n => .int .u8 (.ofNat n)) ∧ ∀ n ∈ l, n < 256
  | [], l, h => by simp [bytesOf] at h; subst h; simp
  | c :: r, l, h => by
    unfold bytesOf at h
    split at h
    · rename_i hq; cases hq
    · rename_i n r' hq
      cases hq
      split at h
      · rename_i l' hr
        cases hb : Nat.blt n 256 with
        | false => rw [hb] at h; cases h
        | true =>
          rw [hb] at h
          cases h
          obtain ⟨h1, h2⟩ := bytesOf_spec hr
          refine ⟨by rw [h1]; simp, fun m hm => ?_⟩
          simp at hm
          rcases hm with rfl | hm
          · have : m + 1 ≤ 256 := by simpa [Nat.blt] using hb
            omega
          · exact h2 m hm
      · cases h
    · cases h
theorem foldl_push (ns : List Nat) : ∀ (b : ByteArray), strD (ns.foldl (fun r n => r.push (UInt8.ofNat n)) b) = strD b ++ ns.map (· % 256) := by
  induction ns with
  | nil => intro b; simp
  | cons n ns ih =>
    intro b
    rw [List.foldl_cons, ih]
    have : strD (b.push (UInt8.ofNat n)) = strD b ++ [n % 256] := by simp [strD, ByteArray.push]
    rw [this]; simp
theorem sim_b2s {s t e : TypeId} {x : Operand} {y : Opd} (ho : o.op = .convert s t x) (hs : P.underlying s = some (.slice e)) (ht : P.underlying t = some .string) (hte : P.underlying e = some (.int .u8)) (hx : copd glob x = some y) (he : ORel g a ρ glob) (hr : R P top g h w) (call : Call) (E : Env)
    (hrun : r_b2s y E call a h = .ok d h') : ∃ v w', Does P ρ o w v w' ∧ Post P top g h w d h' v w' := by
  simp only [r_b2s] at hrun
  have h1 := he x y hx
  split at hrun
  · rename_i n cs hc
    split at hrun
    · rename_i l hl
      cases hrun
      obtain ⟨hcs, hlt⟩ := bytesOf_spec hl
      rcases sliceCells_sim hr hc h1 with ⟨hv, hn, h0⟩ | ⟨ad, cap, vs, hv, hvs, hcl0, hcell⟩
      · have hl0 : l = [] := by rw [h0] at hcs; exact List.map_eq_nil_iff.1 hcs.symm
        subst hl0
        exact ⟨.string .empty, w, .inl (by simp [execOp, ho, hv, convert, run_underlying hs, run_underlying ht, run_underlying hte, Conv.bytesToString]), Post.same hr (.str ByteArray.empty)⟩
      · have hcl := hcl0
        rw [Nat.mul_one] at hcl
        have hvv : vs = (l.map fun n : Nat => (n : Int)).map (Value.int .u8) := by
          refine List.ext_getElem? fun i => ?_
          simp only [List.map_map, List.getElem?_map]
          by_cases hi : i < l.length
          · have hc : cs[i]? = some (.int .u8 (.ofNat l[i])) := by rw [hcs, List.getElem?_map, List.getElem?_eq_getElem hi]; rfl
            obtain ⟨v, hv1, hv2⟩ := hvs.some hc
            cases hv2
            rw [hv1, List.getElem?_eq_getElem hi]; rfl
          · have h3 : vs.length = l.length := by rw [← hvs.1, hcs]; simp
            rw [List.getElem?_eq_none (by omega), List.getElem?_eq_none (by omega)]; rfl
        have hload : (loadCells ad n).run P w = .ok ((l.map fun n : Nat => (n : Int)).map (Value.int .u8)).toArray w := by
          have := run_loadCells_list (P := P) w ad vs hcell
          rw [← hvs.1, hcl] at this
          rw [this, hvv]
        have hb := run_bytesToString (P := P) w ad n cap _ hload
        have hstr : strD ((l.map fun n : Nat => (n : Int)).foldl (fun r n => r.push (UInt8.ofNat n.toNat)) ByteArray.empty) = l := by
          rw [List.foldl_map]
          have := foldl_push l ByteArray.empty
          simp only [Int.toNat_natCast]
          rw [this]
          have e0 : strD ByteArray.empty = [] := rfl
          rw [e0, List.nil_append]
          conv => rhs; rw [← List.map_id l]
          exact List.map_congr_left fun n hn => Nat.mod_eq_of_lt (hlt n hn)
        refine ⟨.string _, w, .inl ?_, Post.same hr (by rw [← hstr]; exact .str _)⟩
        simp [execOp, ho, hv, convert, run_underlying hs, run_underlying ht, run_underlying hte, hb]
    · cases hrun
  · cases hrun
end
end Go.Abs
