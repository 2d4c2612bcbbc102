/- Each operation, in a world and on plain data: literals, lengths, conversions. -/
import Derived.Test.YtmaphdhdfbgflaaGreatDoorAbsOps4
import Derived.Great.BuildSlice
set_option linter.unusedVariables false
namespace Go.Abs
section
variable {P : Program} {top : Nat} {glob : Nat → Option (List D)} {g : G} {h h' : H} {w : World} {a : AAct} {ρ : Operand → Value} {o : Oper} {d : D}

theorem foldl_fill (off : Nat) : ∀ (l : List Value) (k : Nat) (arr : Array Value), off + k + l.length ≤ arr.size →
    ((l.zipIdx k).foldl (fun cs p => cs.setIfInBounds (off + p.2) p.1) arr).toList = arr.toList.take (off + k) ++ l ++ arr.toList.drop (off + k + l.length)
  | [], k, arr, h => by simp
  | c :: l, k, arr, h => by
    simp only [List.zipIdx_cons, List.foldl_cons]
    rw [foldl_fill off l (k + 1) _ (by simp at h ⊢; omega)]
    have hlt : off + k < arr.toList.length := by simp at h ⊢; omega
    have e1 : (arr.setIfInBounds (off + k) c).toList = arr.toList.set (off + k) c := by simp
    rw [e1, show off + (k + 1) = off + k + 1 by omega]
    rw [List.take_succ_eq_append_getElem (by simpa using hlt)]
    have e2 : (arr.toList.set (off + k) c).take (off + k) = arr.toList.take (off + k) := by
      rw [List.take_set_of_le (Nat.le_refl _)]
    have e3 : (arr.toList.set (off + k) c).drop (off + k + 1 + l.length) = arr.toList.drop (off + k + (c :: l).length) := by
      rw [List.drop_set_of_lt (by omega)]; simp; congr 1; omega
    rw [e2, e3]
    simp

theorem fill_sim (he : ORel g a ρ glob) {place : Nat → Option (Nat × Nat)} : ∀ {parts : List (Nat × Operand)} {ps : List (Nat × Nat × Opd)} {zs cs : List D} {zv : Array Value},
    cparts glob place parts = some ps → fillD a zs ps = some cs → VRels g zs zv.toList → ∃ cells, Instr.fill place zv (parts.map fun p => (p.1, ρ p.2)) = some cells ∧ VRels g cs cells.toList
  | [], ps, zs, cs, zv, hp, hf, hv => by
    simp [cparts] at hp; subst hp
    simp [fillD] at hf; subst hf
    exact ⟨zv, rfl, hv⟩
  | (i, x) :: r, ps, zs, cs, zv, hp, hf, hv => by
    simp only [cparts] at hp
    split at hp
    · rename_i off size y l hpl hx hr
      cases hp
      simp only [fillD] at hf
      cases hb : Nat.beq (a.eval y).cells.length size with
      | false => rw [hb] at hf; cases hf
      | true =>
        rw [hb] at hf
        simp only [cond_true] at hf
        split at hf
        · rename_i cells hpa
          obtain ⟨hle, rfl⟩ := patch_spec hpa
          have hyc := (he x y hx).cells
          have hlen := Nat.eq_of_beq_eq_true hb
          have hs : (ρ x).cells.size = size := by
            have := hyc.1; rw [hlen] at this; simpa using this.symm
          have hsz : zs.length = zv.size := by simpa using hv.1
          have hle' : off + (ρ x).cells.size ≤ zv.size := by rw [hs, ← hlen, ← hsz]; exact hle
          have hfold := foldl_fill off (ρ x).cells.toList 0 zv (by simpa using hle')
          obtain ⟨cells', h1, h2⟩ := fill_sim he (zv := (((ρ x).cells.toList.zipIdx 0).foldl (fun cs p => cs.setIfInBounds (off + p.2) p.1) zv)) hr hf (by rw [hfold]; have := hv.patch hyc off; simpa using this)
          refine ⟨cells', ?_, h2⟩
          rw [← h1]
          simp only [List.map_cons, Instr.fill, hpl]
          rw [if_neg (by simp [hs]; omega)]
          congr 1
          rw [← Array.foldl_toList]
          simp
        · cases hf
    · cases hp

theorem mapM_places : ∀ (fs : List Field), (fs.all fun f => (size? P f.type).isSome) = true → ∃ places : List (Nat × Nat), fs.mapM (fun f => (P.info? f.type).map fun i => (f.offset, i.size)) = some places ∧
    ∀ i : Nat, places[i]? = (fs[i]?).bind fun f => (size? P f.type).map fun s => (f.offset, s)
  | [], _ => ⟨[], rfl, fun i => by simp⟩
  | f :: fs, h => by
    simp only [List.all_cons, Bool.and_eq_true] at h
    obtain ⟨places, h1, h2⟩ := mapM_places fs h.2
    cases hs : size? P f.type with
    | none => rw [hs] at h; simp at h
    | some n =>
      obtain ⟨i, hi, his, _, _⟩ := size?_spec hs
      refine ⟨(f.offset, n) :: places, by simp [List.mapM_cons, hi, h1, his], fun k => ?_⟩
      cases k with
      | zero => simp [hs]
      | succ k => simpa using h2 k

theorem sim_build_struct {t : TypeId} {fs : Array Field} {parts : Array (Nat × Operand)} {ps : List (Nat × Nat × Opd)} {z : D} (ho : o.op = .build t parts) (hu : P.underlying t = some (.struct fs)) (hz : zero? P t = some z) (hal : allSizes P fs.toList = true)
    (hp : cparts glob (fun i => (fs[i]?).bind fun (f : Field) => (size? P f.type).map fun s => (f.offset, s)) parts.toList = some ps) (he : ORel g a ρ glob) (hr : R P top g h w) (call : Call) (E : Env)
    (hrun : r_build z.cells ps E call a h = .ok d h') : ∃ v w', Does P ρ o w v w' ∧ Post P top g h w d h' v w' := by
  simp only [r_build] at hrun
  split at hrun
  · rename_i cs hf
    cases hrun
    obtain ⟨i, zv, hi, hzv, rfl, hzr⟩ := zero?_spec hz
    obtain ⟨cells, h1, h2⟩ := fill_sim he hp hf (VRel.of g zv).cells
    obtain ⟨places, h3, h4⟩ := mapM_places fs.toList hal
    refine ⟨.agg cells, w, .inl ?_, Post.same hr (.agg' h2)⟩
    have hb : P.built t (parts.map fun (p : Nat × Operand) => (p.1, ρ p.2)).toList = some cells := by
      simp only [Program.built, hi, hu, hzv, h3]
      rw [← h1]
      have e1 : (fun x : Nat => places.toArray[x]?) = (fun i : Nat => (fs[i]?).bind fun (f : Field) => (size? P f.type).map fun s => (f.offset, s)) := funext fun x => by
        have := h4 x; simpa using this
      rw [e1]; simp
    simp only [execOp, ho, Sem.run_bind]
    have := run_build w t (parts.map fun (p : Nat × Operand) => (p.1, ρ p.2)) cells hb
    rw [this]; rfl
  · cases hrun
theorem sim_build_array {t e : TypeId} {n s : Nat} {parts : Array (Nat × Operand)} {ps : List (Nat × Nat × Opd)} {z : D} (ho : o.op = .build t parts) (hu : P.underlying t = some (.array n e)) (hz : zero? P t = some z) (hs : size? P e = some s)
    (hp : cparts glob (fun i => some (i * s, s)) parts.toList = some ps) (he : ORel g a ρ glob) (hr : R P top g h w) (call : Call) (E : Env)
    (hrun : r_build z.cells ps E call a h = .ok d h') : ∃ v w', Does P ρ o w v w' ∧ Post P top g h w d h' v w' := by
  simp only [r_build] at hrun
  split at hrun
  · rename_i cs hf
    cases hrun
    obtain ⟨i, zv, hi, hzv, rfl, hzr⟩ := zero?_spec hz
    obtain ⟨ie, hie, his, _, _⟩ := size?_spec hs
    obtain ⟨cells, h1, h2⟩ := fill_sim he hp hf (VRel.of g zv).cells
    refine ⟨.agg cells, w, .inl ?_, Post.same hr (.agg' h2)⟩
    have hb : P.built t (parts.map fun (p : Nat × Operand) => (p.1, ρ p.2)).toList = some cells := by
      simp only [Program.built, hi, hu, hzv, hie, his]
      rw [← h1]; simp
    simp only [execOp, ho, Sem.run_bind]
    have := run_build w t (parts.map fun (p : Nat × Operand) => (p.1, ρ p.2)) cells hb
    rw [this]; rfl
  · cases hrun

theorem repeatL_len (l : List D) : ∀ n, (repeatL l n).length = n * l.length
  | 0 => by simp [repeatL]
  | n + 1 => by simp [repeatL, repeatL_len l n, Nat.add_mul, Nat.add_comm]
theorem repeatL_get (l : List D) : ∀ n i, i < n * l.length → (repeatL l n)[i]? = l[i % l.length]?
  | 0, i, h => by simp at h
  | n + 1, i, h => by
    have hpos : 0 < l.length := by rcases Nat.eq_zero_or_pos l.length with h0 | h0; · rw [h0] at h; simp at h
                                   · exact h0
    simp only [repeatL]
    by_cases hi : i < l.length
    · rw [List.getElem?_append_left hi, Nat.mod_eq_of_lt hi]
    · rw [List.getElem?_append_right (by omega), repeatL_get l n (i - l.length) (by rw [Nat.add_mul] at h; omega)]
      rw [Nat.mod_eq_sub_mod (a := i) (by omega)]
theorem zeros_sim {z : D} {zv : Value} (hz : z = .of zv) {s n : Nat} (hl : z.cells.length = s) (hs : s ≠ 0) : VRels g (repeatL z.cells n) ((Array.range (n * s)).map (zv.cells[· % zv.cells.size]!)).toList := by
  subst hz
  have hv := (VRel.of g zv).cells
  have hsz : zv.cells.size = s := by have := hv.1; rw [hl] at this; simpa using this.symm
  refine ⟨by rw [repeatL_len, hl, Array.length_toList, Array.size_map, Array.size_range], fun i d v hd hu => ?_⟩
  have hi : i < n * s := by
    have := (List.getElem?_eq_some_iff.1 hd).1
    rw [repeatL_len, hl] at this; exact this
  rw [repeatL_get _ n i (by rw [hl]; exact hi), hl] at hd
  have hm : i % s < zv.cells.size := by rw [hsz]; exact Nat.mod_lt _ (Nat.pos_of_ne_zero hs)
  have hu' : v = zv.cells[i % s] := by
    simp [hi, hsz] at hu
    rw [getElem!_pos zv.cells (i % s) hm] at hu
    exact hu.symm
  subst hu'
  refine hv.2 _ d _ hd ?_
  rw [Array.getElem?_toList]; exact Array.getElem?_eq_getElem hm

theorem own_made {w : World} {cells : Array Value} {e : TypeId} {size n : Nat} (hs : cells.size = n * size) (hm : n ≤ maxLen) : (w.alloc (.cells cells e)).ownsRow 0 e size (.slice (some ⟨w.heap.size, 0, none⟩) n n) n cells.toList :=
  ⟨by simpa using hs, .inr ⟨w.heap.size, n, cells, rfl, Nat.zero_le _, heap_alloc_new w _, Nat.le_refl _, hm, hs, List.take_of_length_le (by rw [← hs]; exact Nat.le_of_eq (Array.length_toList))⟩⟩

theorem sim_buildSl {t e : TypeId} {len s : Nat} {parts : Array (Nat × Operand)} {ps : List (Nat × Nat × Opd)} {z : D} (ho : o.op = .buildSlice t len parts) (hu : P.underlying t = some (.slice e)) (hz : zero? P e = some z) (hs : size? P e = some s)
    (hc : (Nat.beq z.cells.length s && !Nat.beq s 0 && Nat.ble (len * s) 16777216) = true)
    (hp : cparts glob (fun i => some (i * s, s)) parts.toList = some ps) (he : ORel g a ρ glob) (hr : R P top g h w) (htop : h'.next ≤ top) (call : Call) (E : Env)
    (hrun : r_buildSl e len (repeatL z.cells len) ps E call a h = .ok d h') : ∃ v w', Does P ρ o w v w' ∧ Post P top g h w d h' v w' := by
  simp only [r_buildSl] at hrun
  simp only [Bool.and_eq_true] at hc
  obtain ⟨⟨hc1, hc2⟩, hc3⟩ := hc
  have hzl := Nat.eq_of_beq_eq_true hc1
  have hs0 : s ≠ 0 := by intro e0; subst e0; simp at hc2
  have hsm := Nat.le_of_ble_eq_true hc3
  obtain ⟨i, zv, hi, hzv, hzz, hzr⟩ := zero?_spec hz
  obtain ⟨ie, hie, his, hic, hsr⟩ := size?_spec hs
  rw [hi] at hie; cases hie
  split at hrun
  · rename_i cs hf
    simp only [H.new] at hrun
    cases hrun
    obtain ⟨cells, h1, h2⟩ := fill_sim he hp hf (zeros_sim hzz hzl hs0 (n := len))
    have hcl : cells.size = len * s := by
      have hfl : ∀ {ps : List (Nat × Nat × Opd)} {zs cs : List D}, fillD a zs ps = some cs → cs.length = zs.length := by
        intro ps
        induction ps with
        | nil => intro zs cs h; simp [fillD] at h; subst h; rfl
        | cons p r ih =>
          intro zs cs h
          obtain ⟨off, size, x⟩ := p
          simp only [fillD] at h
          cases hb : Nat.beq (a.eval x).cells.length size with
          | false => rw [hb] at h; cases h
          | true =>
            rw [hb] at h
            simp only [cond_true] at h
            split at h
            · rename_i c2 hpa
              obtain ⟨hle, rfl⟩ := patch_spec hpa
              rw [ih h]; simp; omega
            · cases h
      have := h2.1
      rw [hfl hf, repeatL_len, hzl] at this
      simpa using this.symm
    have hlen : len ≤ maxLen := by
      have : len ≤ len * s := Nat.le_mul_of_pos_right _ (Nat.pos_of_ne_zero hs0)
      unfold maxLen; omega
    obtain ⟨g', hE, hR, hV⟩ := hr.slFresh (P := P) htop (id := h.next) (N := len) (cap := len) (b := w.heap.size) (e := e) (ds := cs) (xs := cells.toList) (w' := w.alloc (.cells cells e)) (.inl ⟨rfl, rfl⟩) (World.grownBy_alloc w _ none) (Nat.le_refl _)
      (by rw [hic]; exact own_made hcl hlen) (Nat.le_refl _) h2
    refine ⟨.slice (some ⟨w.heap.size, 0, none⟩) len len, w.alloc (.cells cells e), .inl ?_, g', hE, hR, hV⟩
    by_cases h0 : len = 0
    · subst h0
      have hce : cells = #[] := by simpa using hcl
      subst hce
      have hr0 : Array.range 0 = #[] := rfl
      have h1' : Instr.fill (fun i => some (i * s, s)) #[] (parts.map fun (p : Nat × Operand) => (p.1, ρ p.2)).toList = some #[] := by
        rw [Array.toList_map]; simpa [hr0] using h1
      simp only [execOp, ho]
      simp [Instr.buildSlice, run_underlying hu, hsr, newRow, hr0]
      rw [Array.toList_map] at h1'
      rw [h1']
      simp
    · have := run_buildSlice w t e len (parts.map fun (p : Nat × Operand) => (p.1, ρ p.2)) cells i zv hu hi hzv (by rw [his]; omega) (by rw [his]; exact Nat.mul_ne_zero h0 hs0) (by rw [his, Array.toList_map]; exact h1)
      simp only [execOp, ho, Sem.run_bind]
      rw [this]; rfl
  · cases hrun
end
end Go.Abs
