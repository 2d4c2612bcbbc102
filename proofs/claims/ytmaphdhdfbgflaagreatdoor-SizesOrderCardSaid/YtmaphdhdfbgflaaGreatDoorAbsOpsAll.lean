/- All operations that call nothing. -/
import Derived.Test.YtmaphdhdfbgflaaGreatDoorAbsOps10
set_option linter.unusedVariables false
namespace Go.Abs
section
variable {P : Program} {top : Nat} {glob : Nat → Option (List D)} {g : G} {h h' : H} {w : World} {a : AAct} {ρ : Operand → Value} {o : Oper} {d : D}

theorem map_some {α β : Type} {f : α → β} {x : Option α} {y : β} (h : x.map f = some y) : ∃ z, x = some z ∧ f z = y := by
  cases x with
  | none => cases h
  | some z => exact ⟨z, rfl, by simpa using h⟩

set_option maxHeartbeats 2000000 in
theorem op_sim {c : COp} (hc : cop P glob o = some c) (hnc : ∀ f args, c ≠ .call f args) (he : ORel g a ρ glob) (hr : R P top g h w) (htop : h'.next ≤ top) (call : Call) (E : Env) (hE : E.P = P)
    (hrun : den c E call a h = .ok d h') : ∃ v w', Does P ρ o w v w' ∧ Post P top g h w d h' v w' := by
  unfold cop at hc
  split at hc
  · rename_i x ho
    obtain ⟨y, hy, rfl⟩ := map_some hc
    exact sim_mv (.inl ho) hy he hr call E hrun
  · rename_i x ho
    obtain ⟨y, hy, rfl⟩ := map_some hc
    exact sim_mv (.inr ho) hy he hr call E hrun
  · rename_i c a b ho
    split at hc
    · rename_i h1 h2 h3; cases hc; exact sim_pick ho h1 h2 h3 he hr call E hrun
    · cases hc
  · rename_i t ho
    obtain ⟨z, hz, rfl⟩ := map_some hc
    exact sim_alloc (a := a) ho hz hr htop call E hrun
  · rename_i t x ho
    obtain ⟨y, hy, rfl⟩ := map_some hc
    exact sim_box ho hy he hr htop call E hrun
  · rename_i t parts ho
    split at hc
    · rename_i z fs hz hu
      cases hal : allSizes P fs.toList with
      | false => rw [hal] at hc; cases hc
      | true =>
        rw [hal] at hc
        obtain ⟨ps, hp, rfl⟩ := map_some hc
        exact sim_build_struct ho hu hz hal hp he hr call E hrun
    · rename_i z n e hz hu
      split at hc
      · rename_i s hs
        obtain ⟨ps, hp, rfl⟩ := map_some hc
        exact sim_build_array ho hu hz hs hp he hr call E hrun
      · cases hc
    · cases hc
  · rename_i t len parts ho
    split at hc
    · rename_i e hu
      split at hc
      · rename_i z s hz hs
        cases hcc : (Nat.beq z.cells.length s && !Nat.beq s 0 && Nat.ble (len * s) 16777216) with
        | false => rw [hcc] at hc; cases hc
        | true =>
          rw [hcc] at hc
          obtain ⟨ps, hp, rfl⟩ := map_some hc
          exact sim_buildSl ho hu hz hs hcc hp he hr htop call E hrun
      · cases hc
    · cases hc
  · rename_i t x ho
    split at hc
    · rename_i n y h1 h2 h3; cases hc; exact sim_ld ho h3 h2 h1 he hr call E hrun
    · rename_i n y h1 h2 h3; cases hc; exact sim_ld1 ho h3 h1 he hr call E hrun
    · cases hc
  · rename_i t x y ho
    split at hc
    · rename_i h1 h2 h3; cases hc; exact sim_st ho h2 h3 h1 he hr call E hrun
    · cases hc
  · rename_i x ho
    obtain ⟨y, hy, rfl⟩ := map_some hc
    exact sim_nilCheck ho hy he hr call E hrun
  · rename_i op t x y yt ho
    split at hc
    · rename_i h1 h2; cases hc; exact sim_bin ho h1 h2 he hr call E hE hrun
    · cases hc
  · rename_i op t x ho
    obtain ⟨y, hy, rfl⟩ := map_some hc
    exact sim_un ho hy he hr call E hE hrun
  · rename_i s t x ho
    split at hc
    · rename_i h1 h2 h3; cases hc; exact sim_cint ho h1 h2 h3 he hr call E hrun
    · rename_i h1 h2 h3; cases hc; exact sim_mvs ho h1 h2 h3 he hr call E hrun
    · rename_i h1 h2 h3
      split at hc
      · rename_i h4; cases hc; exact sim_s2b ho h1 h2 h4 h3 he hr call E hrun
      · cases hc
    · rename_i h1 h2 h3
      split at hc
      · rename_i h4; cases hc; exact sim_b2s ho h1 h2 h4 h3 he hr call E hrun
      · cases hc
    · cases hc; exact sim_conv ho (by assumption) he hr call E hE hrun
    · cases hc
  · rename_i t x ho
    split at hc
    · cases hc
    · rename_i u hni hu
      obtain ⟨y, hy, rfl⟩ := map_some hc
      exact sim_iface ho hu (fun ms e => hni ms e) hy he hr call E hrun
    · cases hc
  · rename_i fn x y ho
    split at hc
    · rename_i h1 h2; cases hc; exact sim_mkf ho h1 h2 he hr call E hrun
    · cases hc
  · rename_i t ho
    cases hc
    exact sim_mkmap (a := a) ho hr htop call E hrun
  · rename_i t l c ho
    split at hc
    · rename_i e hu
      split at hc
      · rename_i z s b l' c' h1 h2 h3 h4 h5
        cases hcc : Nat.beq z.cells.length s && !Nat.beq s 0 with
        | false => rw [hcc] at hc; cases hc
        | true =>
          rw [hcc] at hc
          cases hc
          rw [Bool.and_eq_true] at hcc
          exact sim_mksl ho hu h1 h2 h3 (Nat.eq_of_beq_eq_true hcc.1) (fun e0 => by subst e0; simp at hcc) h4 h5 he hr htop call E hrun
      · cases hc
    · cases hc
  · rename_i t x lo hi ho
    split at hc
    · rename_i hu h1 h2 h3; cases hc; exact sim_slstr ho hu h1 h2 h3 he hr call E hrun
    · rename_i e x' lo' hi' hu h1 h2 h3
      obtain ⟨n, hn, rfl⟩ := map_some hc
      exact sim_slsl ho hu hn h1 h2 h3 he hr call E hrun
    · rename_i n e x' lo' hi' hu h1 h2 h3
      split at hc
      · rename_i s hs
        cases hb : Nat.beq s 0 with
        | true => rw [hb] at hc; cases hc
        | false => rw [hb] at hc; cases hc; exact sim_slarr ho hu hs h1 h2 h3 he hr call E hrun
      · cases hc
    · cases hc
  · rename_i t x f ho
    split at hc
    · rename_i fs x' hu hx
      split at hc
      · rename_i fl hf
        split at hc
        · rename_i s hs
          cases hb : Nat.beq s 0 with
          | true => rw [hb] at hc; cases hc
          | false => rw [hb] at hc; cases hc; exact sim_fa ho hu hf hs (fun e0 => by subst e0; simp at hb) hx he hr call E hrun
        · cases hc
      · cases hc
    · cases hc
  · rename_i t x f ho
    split at hc
    · rename_i fs x' hu hx
      split at hc
      · rename_i fl hf
        split at hc
        · rename_i ag s ha hs; cases hc; exact sim_fld ho hu hf ha hs hx he hr call E hrun
        · cases hc
      · cases hc
    · cases hc
  · rename_i t x i ho
    split at hc
    · rename_i n e x' i' hu hx hi
      obtain ⟨s, hs, rfl⟩ := map_some hc
      exact sim_ixa ho hu hs hx hi he hr call E hrun
    · rename_i e x' i' hu hx hi
      obtain ⟨s, hs, rfl⟩ := map_some hc
      exact sim_ixs ho hu hs hx hi he hr call E hrun
    · cases hc
  · rename_i t x i ho
    split at hc
    · rename_i n e x' i' hu hx hi
      split at hc
      · rename_i ag s ha hs; cases hc; exact sim_idxa ho hu ha hs hx hi he hr call E hrun
      · cases hc
    · rename_i x' i' hu hx hi; cases hc; exact sim_idxs ho hu hx hi he hr call E hrun
    · cases hc
  · rename_i t x k ok ho
    split at hc
    · rename_i kt e x' k' hu hx hk
      split at hc
      · rename_i z fl hz hkd; cases hc; exact sim_look ho hu hkd hz hx hk he hr call E hrun
      · rename_i z hz hkd
        cases hsk : structKey P kt with
        | false => rw [hsk] at hc; cases hc
        | true => rw [hsk] at hc; cases hc; exact sim_lookV ho hu hsk hz hx hk he hr call E hE hrun
      · cases hc
    · cases hc
  · rename_i t m k x ho
    split at hc
    · rename_i kt e m' k' x' hu hm hk hx
      split at hc
      · rename_i fl hkd; cases hc; exact sim_mset (.inl ho) hu hkd hm hk hx he hr call E hrun
      · cases hsk : structKey P kt with
        | false => rw [hsk] at hc; cases hc
        | true => rw [hsk] at hc; cases hc; exact sim_msetV (.inl ho) hu hsk hm hk hx he hr call E hE hrun
    · cases hc
  · rename_i t m k x ho
    split at hc
    · rename_i kt e m' k' x' hu hm hk hx
      split at hc
      · rename_i fl hkd; cases hc; exact sim_mset (.inr ho) hu hkd hm hk hx he hr call E hrun
      · cases hsk : structKey P kt with
        | false => rw [hsk] at hc; cases hc
        | true => rw [hsk] at hc; cases hc; exact sim_msetV (.inr ho) hu hsk hm hk hx he hr call E hE hrun
    · cases hc
  · rename_i x xt t ok ho
    split at hc
    · cases hc
    · rename_i u z x' hni hu hz hx; cases hc
      exact sim_tas ho hu (fun ms e => hni ms e) hz hx he hr call E hrun
    · cases hc
  · rename_i x i ho
    obtain ⟨y, hy, rfl⟩ := map_some hc
    exact sim_ext ho hy he hr call E hrun
  · rename_i c ho
    split at hc
    · split at hc
      · cases hc; exact absurd rfl (hnc _ _)
      · cases hc
    · cases hc
    · rename_i hcal
      split at hc
      · rename_i s x t u hargs htys
        cases hb : Nat.beq t u with
        | false =>
          rw [hb] at hc
          simp only [cond_false] at hc
          split at hc
          · rename_i e hu hux
            cases hbe : byteElem P e with
            | false => rw [hbe] at hc; cases hc
            | true =>
              rw [hbe] at hc
              simp only [cond_true] at hc
              split at hc
              · rename_i s' x' h1 h2; cases hc; exact sim_apps ho hcal hargs htys hu hux hbe h1 h2 he hr htop call E hrun
              · cases hc
          · cases hc
        | true =>
          rw [hb] at hc
          have htu := Nat.eq_of_beq_eq_true hb
          subst htu
          simp only [cond_true] at hc
          split at hc
          · rename_i e hu
            split at hc
            · rename_i n b z s' x' hs hbt hz h1 h2
              cases hb2 : Nat.beq z.cells.length n with
              | false => rw [hb2] at hc; cases hc
              | true => rw [hb2] at hc; cases hc; exact sim_app ho hcal hargs htys hu hz hs hbt (Nat.eq_of_beq_eq_true hb2) h1 h2 he hr htop call E hrun
            · cases hc
          · cases hc
      · cases hc
    · rename_i hcal
      split at hc
      · rename_i x t hargs htys
        split at hc
        · rename_i hu hx; cases hc; exact sim_lens ho hcal hargs htys hu hx he hr call E hrun
        · rename_i hu hx; cases hc; exact sim_len ho hcal hargs htys hu hx he hr call E hrun
        · rename_i hu hx; cases hc; exact sim_lenm ho hcal hargs htys hu hx he hr call E hrun
        · cases hc
      · cases hc
    · split at hc
      · split at hc <;> cases hc
      · cases hc
    · cases hc
    · rename_i b _ _ _ _ _ hcal
      obtain ⟨ys, hy, rfl⟩ := map_some hc
      exact sim_bi ho hcal hy he hr call E hE hrun
    · cases hc
  · rename_i x ho
    obtain ⟨y, hy, rfl⟩ := map_some hc
    simp only [den, r_panic] at hrun
    split at hrun <;> cases hrun
  · rename_i cl ho
    split at hc
    · obtain ⟨y, hy, rfl⟩ := map_some hc
      simp only [den, r_dfr] at hrun
      cases hrun
    · cases hc
  · cases hc
end
end Go.Abs
