/- Each operation, in a world and on plain data: slices, strings, literals. -/
import Derived.Test.YtmaphdhdfbgflaaGreatDoorAbsOps3
set_option linter.unusedVariables false
namespace Go.Abs
section
variable {P : Program} {top : Nat} {glob : Nat → Option (List D)} {g : G} {h h' : H} {w : World} {a : AAct} {ρ : Operand → Value} {o : Oper} {d : D}

theorem ORel.opt (he : ORel g a ρ glob) {x : Option Operand} {y : Option Opd} (hx : copd? glob x = some y) : (x = none ∧ y = none) ∨ ∃ p q, x = some p ∧ y = some q ∧ VRel g (a.eval q) (ρ p) := by
  cases x with
  | none => simp [copd?] at hx; exact .inl ⟨rfl, hx.symm⟩
  | some p =>
    simp only [copd?] at hx
    split at hx
    · rename_i q hq
      cases hx
      exact .inr ⟨p, q, rfl, rfl, he p q hq⟩
    · cases hx

theorem bounds_run {len cap l k : Nat} {isS : Bool} {lo hi : Option Operand} {lo' hi' : Option Opd} (he : ORel g a ρ glob) (hlo : copd? glob lo = some lo') (hhi : copd? glob hi = some hi')
    (hb : boundsD len cap (lo'.map a.eval) (hi'.map a.eval) = some (l, k)) (w : World) : (Instr.sliceBounds isS len cap (lo.map ρ) (hi.map ρ) none).run P w = .ok (l, k, cap) w ∧ l ≤ k ∧ (hi = none → k = len) ∧ (hi ≠ none → k ≤ cap) := by
  unfold boundsD at hb
  split at hb
  case h_2 => cases hb
  rename_i hh hhd
  have hcase : hi = none ∧ hh = len ∨ ∃ p kk, hi = some p ∧ ρ p = .int kk (hh : Int) ∧ hh ≤ cap := by
    rcases he.opt hhi with ⟨rfl, rfl⟩ | ⟨p, q, rfl, rfl, hv⟩
    · simp [hiD] at hhd; exact .inl ⟨rfl, hhd.symm⟩
    · simp only [Option.map_some] at hhd
      unfold hiD at hhd
      split at hhd
      · rename_i hq; cases hq
      · rename_i kk n hq
        cases hbb : Nat.ble n cap with
        | false => rw [hbb] at hhd; cases hhd
        | true =>
          rw [hbb] at hhd
          cases hhd
          simp only [Option.some.injEq] at hq
          rw [hq] at hv
          refine .inr ⟨p, kk, rfl, ?_, Nat.le_of_ble_eq_true hbb⟩
          generalize hr : ρ p = r at hv
          cases hv; rfl
      · cases hhd
  have hL : k = hh ∧ l ≤ hh ∧ (lo = none ∧ l = 0 ∨ ∃ p kk, lo = some p ∧ ρ p = .int kk (l : Int)) := by
    rcases he.opt hlo with ⟨rfl, rfl⟩ | ⟨p, q, rfl, rfl, hv⟩
    · simp [loD] at hb
      obtain ⟨rfl, rfl⟩ := hb
      exact ⟨rfl, Nat.zero_le _, .inl ⟨rfl, rfl⟩⟩
    · simp only [Option.map_some] at hb
      unfold loD at hb
      split at hb
      · rename_i hq; cases hq
      · rename_i kk n hq
        cases hbb : Nat.ble n hh with
        | false => rw [hbb] at hb; cases hb
        | true =>
          rw [hbb] at hb
          cases hb
          simp only [Option.some.injEq] at hq
          rw [hq] at hv
          refine ⟨rfl, Nat.le_of_ble_eq_true hbb, .inr ⟨p, kk, rfl, ?_⟩⟩
          generalize hr : ρ p = r at hv
          cases hv; rfl
      · cases hb
  obtain ⟨rfl, hle, hlo2⟩ := hL
  refine ⟨?_, hle, fun e => ?_, fun e => ?_⟩
  · rcases hcase with ⟨rfl, rfl⟩ | ⟨p, kk, rfl, hp, hcap⟩ <;> rcases hlo2 with ⟨rfl, rfl⟩ | ⟨p', kk', rfl, hp'⟩
    · simp [Instr.sliceBounds]
    · simp [Instr.sliceBounds, Instr.sliceBound, asIntOf, hp', hle]
    · simp [Instr.sliceBounds, Instr.sliceBound, asIntOf, hp, hcap]
    · simp [Instr.sliceBounds, Instr.sliceBound, asIntOf, hp, hp', hcap, hle]
  · rcases hcase with ⟨_, rfl⟩ | ⟨p, kk, rfl, _⟩
    · rfl
    · cases e
  · rcases hcase with ⟨rfl, _⟩ | ⟨p, kk, _, _, hcap⟩
    · exact absurd rfl e
    · exact hcap

theorem sim_slstr {t : TypeId} {x : Operand} {y : Opd} {lo hi : Option Operand} {lo' hi' : Option Opd} (ho : o.op = .slice t x lo hi none) (hu : P.underlying t = some .string)
    (hx : copd glob x = some y) (hlo : copd? glob lo = some lo') (hhi : copd? glob hi = some hi') (he : ORel g a ρ glob) (hr : R P top g h w) (call : Call) (E : Env) (hrun : r_slstr y lo' hi' E call a h = .ok d h') : ∃ v w', Does P ρ o w v w' ∧ Post P top g h w d h' v w' := by
  simp only [r_slstr] at hrun
  have h1 := he x y hx
  split at hrun
  · rename_i s hb
    rw [hb] at h1
    split at hrun
    · rename_i l k hbd
      cases hrun
      generalize hv : ρ x = v at h1
      cases h1 with
      | str s =>
        have hsz : (strD s).length = s.size := by simp [strD]
        rw [hsz] at hbd
        obtain ⟨hb1, hb2, hb3, hb4⟩ := bounds_run (P := P) (isS := false) he hlo hhi hbd w
        have he2 : ((strD s).drop l).take (k - l) = strD (s.extract l k) := by
          simp only [strD, ByteArray.data_extract, Array.toList_extract, List.extract_eq_take_drop, List.map_take, List.map_drop]
        refine ⟨.string (s.extract l k), w, .inl ?_, Post.same hr (by rw [he2]; exact .str _)⟩
        simp [execOp, ho, hv, Instr.sliceAt, Instr.slice, run_underlying hu, hb1]
    · cases hrun
  · cases hrun

theorem sim_slsl {t e : TypeId} {sz : Nat} {x : Operand} {y : Opd} {lo hi : Option Operand} {lo' hi' : Option Opd} (ho : o.op = .slice t x lo hi none) (hu : P.underlying t = some (.slice e)) (hn : size? P e = some sz)
    (hx : copd glob x = some y) (hlo : copd? glob lo = some lo') (hhi : copd? glob hi = some hi') (he : ORel g a ρ glob) (hr : R P top g h w) (call : Call) (E : Env) (hrun : r_slsl sz y lo' hi' E call a h = .ok d h') : ∃ v w', Does P ρ o w v w' ∧ Post P top g h w d h' v w' := by
  simp only [r_slsl, ok?] at hrun
  have h1 := he x y hx
  obtain ⟨ii, hii, his, hic, hsz⟩ := size?_spec hn
  split at hrun
  · rename_i e' hp
    cases hrun
    unfold sliceD at hp
    split at hp
    · rename_i hb
      rw [hb] at h1
      split at hp
      · rename_i lk hbd
        obtain ⟨l, k⟩ := lk
        cases hp
        generalize hv : ρ x = v at h1
        cases h1
        obtain ⟨hb1, hb2, hb3, hb4⟩ := bounds_run (P := P) (isS := true) he hlo hhi hbd w
        have hk : k = 0 := by
          by_cases hi0 : hi = none
          · exact hb3 hi0
          · have := hb4 hi0; omega
        have hl : l = 0 := by omega
        subst hk hl
        refine ⟨.slice none 0 0, w, .inl ?_, Post.same hr (by rw [hb]; exact .v _)⟩
        simp [execOp, ho, hv, Instr.sliceAt, Instr.slice, run_underlying hu, hb1, hsz]
      · cases hp
    · rename_i id n cs hb
      rw [hb] at h1
      split at hp
      · rename_i l k hbd
        generalize hv : ρ x = v at h1
        cases h1 with
        | sl hcap hcs hid =>
          rename_i ad cap
          have hbd' : boundsD n cap (lo'.map a.eval) (hi'.map a.eval) = some (l, k) := by
            unfold boundsD at hbd ⊢
            have : ∀ hh, hiD n n (hi'.map a.eval) = some hh → hiD n cap (hi'.map a.eval) = some hh := by
              intro hh hq
              unfold hiD at hq ⊢
              split at hq
              · exact hq
              · rename_i kk m hz
                cases hbb : Nat.ble m n with
                | false => rw [hbb] at hq; cases hq
                | true =>
                  rw [hbb] at hq
                  have : Nat.ble m cap = true := Nat.ble_eq_true_of_le (Nat.le_trans (Nat.le_of_ble_eq_true hbb) hcap)
                  simp only [this]; exact hq
              · cases hq
            cases hq : hiD n n (hi'.map a.eval) with
            | none => rw [hq] at hbd; cases hbd
            | some hh => rw [hq] at hbd; rw [this hh hq]; exact hbd
          obtain ⟨hb1, hb2, hb3, hb4⟩ := bounds_run (P := P) (isS := true) he hlo hhi hbd' w
          obtain ⟨_, _, hb5, hb6⟩ := bounds_run (P := P) (isS := true) he hlo hhi hbd w
          have hkn : k ≤ n := by
            by_cases hi0 : hi = none
            · exact Nat.le_of_eq (hb5 hi0)
            · exact hb6 hi0
          have hres : (execOp ρ o).run P w = .ok (.value (.slice (if cap = l then some ad else some (ad.add (l * sz))) (k - l) (cap - l))) w := by
            simp only [execOp, ho, hv, Instr.sliceAt, Instr.slice, Sem.run_bind, run_underlying hu, Result.andThen_ok, Option.map_none, hb1, hsz, Option.map_some]
            rfl
          have hadd : (if cap = l then some ad else some (ad.add (l * sz))) = some (if cap = l then ad else ad.add (l * sz)) := by split <;> rfl
          rw [hadd] at hres
          cases hq : Nat.beq l 0 && Nat.beq k n with
          | true =>
            rw [hq] at hp
            simp only [cond_true, Option.some.injEq] at hp
            rw [Bool.and_eq_true] at hq
            have e1 := Nat.eq_of_beq_eq_true hq.1
            have e2 := Nat.eq_of_beq_eq_true hq.2
            subst e1 e2
            refine ⟨_, w, .inl hres, Post.same hr ?_⟩
            rw [← hp]
            have : (if cap = 0 then ad else ad.add (0 * sz)) = ad := by split <;> simp [Addr.add]
            rw [this, hb]
            exact .sl hcap hcs hid
          | false =>
            rw [hq] at hp
            simp only [cond_false, Option.some.injEq] at hp
            refine ⟨_, w, .inl hres, Post.same hr ?_⟩
            rw [← hp]
            refine .sl (by omega) (fun i dd hdd => ?_) (fun h0 => absurd rfl h0)
            have hilt : i < (k - l) * sz := by
              have := (List.getElem?_eq_some_iff.1 hdd).1
              simp at this; omega
            rw [List.getElem?_take_of_lt hilt, List.getElem?_drop] at hdd
            have hc := hcs _ dd hdd
            have hlc : cap ≠ l := by intro e; have : k - l = 0 := by omega
                                     rw [this] at hilt; simp at hilt
            rw [if_neg hlc]
            obtain ⟨bb, oo, sp⟩ := ad
            obtain ⟨rfl, hi⟩ := hc
            rw [add_plain]
            exact ⟨rfl, by simpa [Nat.add_assoc] using hi⟩
      · cases hp
    · rename_i bb off len cap hb
      rw [hb] at h1
      split at hp
      · rename_i l k hbd
        cases hq : Nat.beq l cap with
        | true => rw [hq] at hp; cases hp
        | false =>
          rw [hq] at hp
          simp only [cond_false, Option.some.injEq] at hp
          subst hp
          generalize hv : ρ x = v at h1
          cases h1 with
          | row hbl =>
            rename_i b
            obtain ⟨hb1, hb2, hb3, hb4⟩ := bounds_run (P := P) (isS := true) he hlo hhi hbd w
            have hne : ¬ cap = l := fun e => by subst e; simp at hq
            refine ⟨.slice (some ⟨b, off + l * sz, none⟩) (k - l) (cap - l), w, .inl ?_, Post.same hr (.row hbl)⟩
            simp [execOp, ho, hv, Instr.sliceAt, Instr.slice, run_underlying hu, hb1, hsz, hne, add_plain]
      · cases hp
    · cases hp
  · cases hrun

theorem sim_slarr {t e : TypeId} {n sz : Nat} {x : Operand} {y : Opd} {lo hi : Option Operand} {lo' hi' : Option Opd} (ho : o.op = .slice t x lo hi none) (hu : P.underlying t = some (.array n e)) (hn : size? P e = some sz)
    (hx : copd glob x = some y) (hlo : copd? glob lo = some lo') (hhi : copd? glob hi = some hi') (he : ORel g a ρ glob) (hr : R P top g h w) (call : Call) (E : Env) (hrun : r_slarr n sz y lo' hi' E call a h = .ok d h') : ∃ v w', Does P ρ o w v w' ∧ Post P top g h w d h' v w' := by
  simp only [r_slarr, ok?] at hrun
  have h1 := he x y hx
  obtain ⟨ii, hii, his, hic, hsz⟩ := size?_spec hn
  split at hrun
  · rename_i e' hp
    cases hrun
    unfold sliceArrD at hp
    split at hp
    · rename_i bb off hb
      rw [hb] at h1
      split at hp
      · rename_i l k hbd
        cases hq : Nat.beq l n with
        | true => rw [hq] at hp; cases hp
        | false =>
          rw [hq] at hp
          simp only [cond_false, Option.some.injEq] at hp
          subst hp
          generalize hv : ρ x = v at h1
          cases h1 with
          | ptr hbl =>
            rename_i b
            obtain ⟨hb1, hb2, hb3, hb4⟩ := bounds_run (P := P) (isS := false) he hlo hhi hbd w
            have hne : ¬ n = l := fun e => by subst e; simp at hq
            refine ⟨.slice (some ⟨b, off + l * sz, none⟩) (k - l) (n - l), w, .inl ?_, Post.same hr (.row hbl)⟩
            simp [execOp, ho, hv, Instr.sliceAt, Instr.sureAddr, run_underlying hu, hb1, hsz, hne, add_plain]
      · cases hp
    · rename_i cs hb
      rw [hb] at h1
      split at hp
      · rename_i l k hbd
        cases hq : Nat.beq l n with
        | true => rw [hq] at hp; cases hp
        | false =>
          rw [hq] at hp
          simp only [cond_false, Option.some.injEq] at hp
          subst hp
          generalize hv : ρ x = v at h1
          cases h1 with
          | ep hi' =>
            rename_i b off
            obtain ⟨hb1, hb2, hb3, hb4⟩ := bounds_run (P := P) (isS := false) he hlo hhi hbd w
            have hne : ¬ n = l := fun e => by subst e; simp at hq
            have hkn : k ≤ n := by
              by_cases hi0 : hi = none
              · exact Nat.le_of_eq (hb3 hi0)
              · exact hb4 hi0
            refine ⟨.slice (some ⟨b, off + l * sz, none⟩) (k - l) (n - l), w, .inl ?_, Post.same hr (.sl (by omega) (fun i dd hdd => ⟨rfl, ?_⟩) (fun h0 => absurd rfl h0))⟩
            · simp [execOp, ho, hv, Instr.sliceAt, Instr.sureAddr, run_underlying hu, hb1, hsz, hne, add_plain]
            · have hilt : i < (k - l) * sz := by
                have := (List.getElem?_eq_some_iff.1 hdd).1
                simp at this; omega
              rw [List.getElem?_take_of_lt hilt, List.getElem?_drop] at hdd
              have := hi' _ dd hdd
              simpa [Nat.add_assoc] using this
      · cases hp
    · cases hp
  · cases hrun

theorem sim_idxs {t : TypeId} {x i : Operand} {y u : Opd} (ho : o.op = .index t x i) (hu : P.underlying t = some .string)
    (hx : copd glob x = some y) (hi : copd glob i = some u) (he : ORel g a ρ glob) (hr : R P top g h w) (call : Call) (E : Env) (hrun : r_idxs y u E call a h = .ok d h') : ∃ v w', Does P ρ o w v w' ∧ Post P top g h w d h' v w' := by
  simp only [r_idxs] at hrun
  have h1 := he x y hx
  have h2 := he i u hi
  split at hrun
  · rename_i s kk n hb hk
    rw [hb] at h1
    rw [hk] at h2
    split at hrun
    · rename_i b r hdr
      cases hrun
      generalize hv : ρ x = v at h1
      generalize hv2 : ρ i = v2 at h2
      cases h2
      cases h1 with
      | str s =>
        have hq : (strD s)[n]? = some b := by
          have : ((strD s).drop n)[0]? = some b := by rw [hdr]; rfl
          rw [List.getElem?_drop] at this
          simpa using this
        simp only [strD, List.getElem?_map] at hq
        cases hs : s.data.toList[n]? with
        | none => rw [hs] at hq; cases hq
        | some c =>
          rw [hs] at hq
          simp at hq
          subst hq
          have hlt : n < s.size := by
            have := (List.getElem?_eq_some_iff.1 hs).1
            simpa using this
          have hc : s[n]? = some c := by
            have h3 : s.data[n]? = some c := by simpa using hs
            rw [getElem?_pos s n hlt]
            have h4 : n < s.data.size := hlt
            rw [getElem?_pos s.data n h4] at h3
            exact h3
          refine ⟨.int .u8 c.toNat, w, .inl ?_, Post.same hr (.int _ _)⟩
          simp [execOp, ho, hv, hv2, Instr.index, asIntOf, run_underlying hu, hc]
    · cases hrun
  · cases hrun
end
end Go.Abs
