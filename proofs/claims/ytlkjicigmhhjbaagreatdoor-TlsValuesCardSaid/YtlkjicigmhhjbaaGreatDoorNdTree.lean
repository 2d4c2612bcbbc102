/- A world's cells as trees without names: calls on trees, one behind the other. -/
import Derived.Test.YtlkjicigmhhjbaaGreatDoorNdSym
import Derived.Test.YtlkjicigmhhjbaaGreatDoorNdFast
import Derived.Deep.Slices
import Derived.ProofKit
import Derived.OpenShut
set_option linter.unusedVariables false
set_option linter.unusedSimpArgs false
namespace Go.Abs
noncomputable section
open Go.RowKit
def WI (f : D → Option D) : List D → Option (List D)
  | [] => some []
  | d :: r => match f d, WI f r with
    | some t, some l => some (t :: l)
    | _, _ => none
theorem WG {f : D → Option D} : ∀ {ds ts : List D}, WI f ds = some ts → ts.length = ds.length ∧ ∀ (i : Nat) t, ts[i]? = some t → ∃ d, ds[i]? = some d ∧ f d = some t
  | [], ts, h => by cases h; exact ⟨rfl, fun i t hi => by simp at hi⟩
  | d :: r, ts, h => by
    unfold WI at h
    split at h
    · rename_i t l h1 h2
      cases h
      obtain ⟨hl, hr⟩ := WG h2
      refine ⟨by simp [hl], fun i u hi => ?_⟩
      cases i with
      | zero => cases hi; exact ⟨d, rfl, h1⟩
      | succ i => exact hr i u hi
    · cases h
theorem Vl {f f' : D → Option D} (hf : ∀ d t, f d = some t → f' d = some t) : ∀ {ds ts : List D}, WI f ds = some ts → WI f' ds = some ts
  | [], ts, h => h
  | d :: r, ts, h => by
    unfold WI at h
    split at h
    · rename_i t l h1 h2
      cases h
      simp only [WI, hf d t h1, Vl hf h2]
    · cases h
theorem Us {f f' : D → Option D} (hf : ∀ d t, f d = some t → f' t = some t) : ∀ {ds ts : List D}, WI f ds = some ts → WI f' ts = some ts
  | [], ts, h => by cases h; rfl
  | d :: r, ts, h => by
    unfold WI at h
    split at h
    · rename_i t l h1 h2
      cases h
      simp only [WI, hf d t h1, Us hf h2]
    · cases h
def Y9 (P : Program) (h : H) : Nat → D → Option D
  | 0, _ => none
  | k + 1, d => match d with
    | .int i n => some (.int i n)
    | .str s => some (.str s)
    | .v x => some (.v x)
    | .sl _ n cs => match WI (Y9 P h k) cs with
      | some ts => some (.sl 0 n ts)
      | none => none
    | .ep cs => match WI (Y9 P h k) cs with
      | some ts => some (.ep ts)
      | none => none
    | .agg cs => match WI (Y9 P h k) cs with
      | some ts => some (.agg ts)
      | none => none
    | .tup cs => match WI (Y9 P h k) cs with
      | some ts => some (.tup ts)
      | none => none
    | .iface t d => match Y9 P h k d with
      | some u => some (.iface t u)
      | none => none
    | .row l off n cap => match h.mem.get l with
      | some (.cells t cs) => bif Nat.ble n cap then (match WI (Y9 P h k) ((cs.drop off).take (n * P.cellsOf t)) with
        | some ts => some (.sl 0 n ts)
        | none => none) else none
      | _ => none
    | .ptr l off => match h.mem.get l with
      | some (.cells t cs) => match WI (Y9 P h k) (cs.drop off) with
        | some ts => some (.ep ts)
        | none => none
      | _ => none
    | _ => none
theorem Zmd {P : Program} {h : H} : ∀ {k : Nat} {d t : D}, Y9 P h k d = some t → Y9 P h (k + 1) d = some t
  | 0, d, t, hd => by cases hd
  | k + 1, d, t, hd => by
    have ih : ∀ d t, Y9 P h k d = some t → Y9 P h (k + 1) d = some t := fun d t hd => Zmd hd
    unfold Y9 at hd ⊢
    split at hd
    · exact hd
    · exact hd
    · exact hd
    · split at hd
      · rename_i ts hm; cases hd; simp only [Vl ih hm]
      · cases hd
    · split at hd
      · rename_i ts hm; cases hd; simp only [Vl ih hm]
      · cases hd
    · split at hd
      · rename_i ts hm; cases hd; simp only [Vl ih hm]
      · cases hd
    · split at hd
      · rename_i ts hm; cases hd; simp only [Vl ih hm]
      · cases hd
    · split at hd
      · rename_i ts hm; cases hd; simp only [ih _ _ hm]
      · cases hd
    · split at hd
      · rename_i l off n cap _ ty cs hm
        cases hb : Nat.ble n cap with
        | false => rw [hb] at hd; cases hd
        | true =>
          rw [hb] at hd
          simp only [cond_true] at hd
          split at hd
          · rename_i ts ho; cases hd; simp only [hm, hb, cond_true, Vl ih ho]
          · cases hd
      · cases hd
    · split at hd
      · rename_i l off _ ty cs hm
        split at hd
        · rename_i ts ho; cases hd; simp only [hm, Vl ih ho]
        · cases hd
      · cases hd
    · cases hd
theorem Zrj {P : Program} {h : H} {k : Nat} {d t : D} (hd : Y9 P h k d = some t) : ∀ {m : Nat}, k ≤ m → Y9 P h m d = some t := by
  intro m hm
  induction hm with
  | refl => exact hd
  | step _ ih => exact Zmd ih
theorem Zrk {P P' : Program} {h h' : H} : ∀ {k : Nat} {d t : D}, Y9 P h k d = some t → Y9 P' h' k t = some t
  | 0, d, t, hd => by cases hd
  | k + 1, d, t, hd => by
    have ih : ∀ d t, Y9 P h k d = some t → Y9 P' h' k t = some t := fun d t hd => Zrk hd
    unfold Y9 at hd
    split at hd
    · cases hd; rfl
    · cases hd; rfl
    · cases hd; rfl
    · split at hd
      · rename_i ts hm; cases hd; simp only [Y9, Us ih hm]
      · cases hd
    · split at hd
      · rename_i ts hm; cases hd; simp only [Y9, Us ih hm]
      · cases hd
    · split at hd
      · rename_i ts hm; cases hd; simp only [Y9, Us ih hm]
      · cases hd
    · split at hd
      · rename_i ts hm; cases hd; simp only [Y9, Us ih hm]
      · cases hd
    · split at hd
      · rename_i ts hm; cases hd; simp only [Y9, ih _ _ hm]
      · cases hd
    · split at hd
      · rename_i l off n cap _ ty cs hm
        cases hb : Nat.ble n cap with
        | false => rw [hb] at hd; cases hd
        | true =>
          rw [hb] at hd
          simp only [cond_true] at hd
          split at hd
          · rename_i ts ho; cases hd; simp only [Y9, Us ih ho]
          · cases hd
      · cases hd
    · split at hd
      · rename_i l off _ ty cs hm
        split at hd
        · rename_i ts ho; cases hd; simp only [Y9, Us ih ho]
        · cases hd
      · cases hd
    · cases hd
def Zl9 (d : D) : Prop := ∃ k, ∀ P h, Y9 P h k d = some d
theorem Znj {P : Program} {h : H} {k : Nat} {d t : D} (hd : Y9 P h k d = some t) : Zl9 t := ⟨k, fun P' h' => Zrk hd⟩
def gT (T : Nat → Nat → Option D) : G := ⟨fun _ => none, fun _ _ => none, fun _ => none, T⟩
structure OkT (w : World) (T : Nat → Nat → Option D) : Prop where
  cell : ∀ b o d, T b o = some d → ∃ v, w.cell? ⟨b, o, none⟩ = some v ∧ VRel (gT T) d v
  tree : ∀ b o d, T b o = some d → Zl9 d
theorem OkT.r {P : Program} {w : World} {T : Nat → Nat → Option D} (ok : OkT w T) {top : Nat} (ht : 1 ≤ top) : R P top (gT T) Za9 w where
  obj := fun l o ho => by cases ho
  tip := fun id n e ho => by cases ho
  imm := fun b o d hd => ok.cell b o d hd
  blkown := fun l b hb => by cases hb
  slown := fun id n b cap hb => by cases hb
  name := fun l _ _ => ⟨rfl, fun _ => rfl, fun b hb => by cases hb⟩
  dom := fun l _ => rfl
  le := ht
  block := fun _ _ => rfl
  pos := ⟨Nat.zero_lt_one, rfl⟩
  slblk := fun id n p hp => by cases hp
  ownk := fun b l hb => by cases hb
theorem OkT.below {w w' : World} {T : Nat → Nat → Option D} (ok : OkT w T) (hb : Below w.heap.size w w') : OkT w' T := by
  refine ⟨fun b o d hd => ?_, ok.tree⟩
  obtain ⟨v, hv, hr⟩ := ok.cell b o d hd
  exact ⟨v, (hb.cell (World.block_lt_of_cell? w _ hv)).trans hv, hr⟩
theorem Zuh {P : Program} {g : G} {h : H} {T : Nat → Nat → Option D} (h1 : ∀ b o d t k, g.imm b o = some d → Y9 P h k d = some t → T b o = some t)
    (h2 : ∀ l b ty cs o d t k, g.blk l = some b → h.mem.get l = some (.cells ty cs) → cs[o]? = some d → Y9 P h k d = some t → T b o = some t) :
    ∀ {k : Nat} {d t : D} {v : Value}, Y9 P h k d = some t → VRel g d v → VRel (gT T) t v
  | 0, d, t, v, hd, _ => by cases hd
  | k + 1, d, t, v, hd, hv => by
    have ih : ∀ {d t : D} {v : Value}, Y9 P h k d = some t → VRel g d v → VRel (gT T) t v := fun hd hv => Zuh h1 h2 hd hv
    unfold Y9 at hd
    split at hd
    · cases hd; cases hv; exact .int _ _
    · cases hd; cases hv; exact .str _
    · cases hd; cases hv; exact .v _
    · split at hd
      · rename_i ts hm
        cases hd
        cases hv with
        | sl hn hc _ =>
          refine .sl hn (fun i t hi => ?_) (fun e => absurd rfl e)
          obtain ⟨d, hdi, ht⟩ := (WG hm).2 i t hi
          exact ⟨(hc i d hdi).1, h1 _ _ d t k (hc i d hdi).2 ht⟩
      · cases hd
    · split at hd
      · rename_i ts hm
        cases hd
        cases hv with
        | ep hc =>
          refine .ep fun i t hi => ?_
          obtain ⟨d, hdi, ht⟩ := (WG hm).2 i t hi
          exact h1 _ _ d t k (hc i d hdi) ht
      · cases hd
    · split at hd
      · rename_i ts hm
        cases hd
        cases hv with
        | agg hl hc =>
          refine .agg ((WG hm).1.trans hl) fun i t u hi hu => ?_
          obtain ⟨d, hdi, ht⟩ := (WG hm).2 i t hi
          exact ih ht (hc i d u hdi hu)
      · cases hd
    · split at hd
      · rename_i ts hm
        cases hd
        cases hv with
        | tup hl hc =>
          refine .tup ((WG hm).1.trans hl) fun i t u hi hu => ?_
          obtain ⟨d, hdi, ht⟩ := (WG hm).2 i t hi
          exact ih ht (hc i d u hdi hu)
      · cases hd
    · split at hd
      · rename_i ts hm
        cases hd
        cases hv with
        | iface hx => exact .iface (ih hm hx)
      · cases hd
    · split at hd
      · rename_i l off n cap _ ty cs hm
        cases hb : Nat.ble n cap with
        | false => rw [hb] at hd; cases hd
        | true =>
          rw [hb] at hd
          simp only [cond_true] at hd
          split at hd
          · rename_i ts ho
            cases hd
            cases hv with
            | row hblk =>
              refine .sl (Nat.le_of_ble_eq_true hb) (fun i t hi => ⟨rfl, ?_⟩) (fun e => absurd rfl e)
              obtain ⟨d, hdi, ht⟩ := (WG ho).2 i t hi
              refine h2 l _ ty cs (off + i) d t k hblk hm ?_ ht
              rw [List.getElem?_take] at hdi
              split at hdi
              · rwa [List.getElem?_drop] at hdi
              · cases hdi
          · cases hd
      · cases hd
    · split at hd
      · rename_i l off _ ty cs hm
        split at hd
        · rename_i ts ho
          cases hd
          cases hv with
          | ptr hblk =>
            refine .ep fun i t hi => ?_
            obtain ⟨d, hdi, ht⟩ := (WG ho).2 i t hi
            refine h2 l _ ty cs (off + i) d t k hblk hm ?_ ht
            rwa [List.getElem?_drop] at hdi
        · cases hd
      · cases hd
    · cases hd
theorem Ztp {f : D → Option D} {cs : List D} (h : WI f cs = some cs) {i : Nat} {d : D} (hi : cs[i]? = some d) : f d = some d := by
  obtain ⟨d', hd, hf⟩ := (WG h).2 i d hi
  rw [hi] at hd
  cases hd
  exact hf
theorem Zri {P : Program} {g : G} {T : Nat → Nat → Option D} (h1 : ∀ b o d k, g.imm b o = some d → Y9 P Za9 k d = some d → T b o = some d) :
    ∀ {k : Nat} {d : D} {v : Value}, Y9 P Za9 k d = some d → VRel g d v → VRel (gT T) d v
  | 0, d, v, hd, _ => by cases hd
  | k + 1, d, v, hd, hv => by
    have ih : ∀ {d : D} {v : Value}, Y9 P Za9 k d = some d → VRel g d v → VRel (gT T) d v := fun hd hv => Zri h1 hd hv
    cases hv with
    | v => exact .v _
    | int i n => exact .int i n
    | str s => exact .str s
    | ptr h => simp only [Y9, Za9, Tr.get] at hd; cases hd
    | row h => simp only [Y9, Za9, Tr.get] at hd; cases hd
    | map h => simp only [Y9] at hd; cases hd
    | func => simp only [Y9] at hd; cases hd
    | ep hc =>
      simp only [Y9] at hd
      split at hd
      · rename_i ts hm
        cases hd
        exact .ep fun i d hi => h1 _ _ d k (hc i d hi) (Ztp hm hi)
      · cases hd
    | sl hn hc _ =>
      simp only [Y9] at hd
      split at hd
      · rename_i ts hm
        cases hd
        exact .sl hn (fun i d hi => ⟨(hc i d hi).1, h1 _ _ d k (hc i d hi).2 (Ztp hm hi)⟩) (fun e => absurd rfl e)
      · cases hd
    | agg hl hc =>
      simp only [Y9] at hd
      split at hd
      · rename_i ts hm
        cases hd
        exact .agg hl fun i d u hi hu => ih (Ztp hm hi) (hc i d u hi hu)
      · cases hd
    | tup hl hc =>
      simp only [Y9] at hd
      split at hd
      · rename_i ts hm
        cases hd
        exact .tup hl fun i d u hi hu => ih (Ztp hm hi) (hc i d u hi hu)
      · cases hd
    | iface hx =>
      simp only [Y9] at hd
      split at hd
      · rename_i u hm
        cases hd
        exact .iface (ih hm hx)
      · cases hd
def TP (P : Program) (g : G) (h : H) (b o : Nat) (t : D) : Prop :=
  (∃ k d, g.imm b o = some d ∧ Y9 P h k d = some t) ∨ (g.imm b o = none ∧ ∃ k l ty cs d, g.blk l = some b ∧ h.mem.get l = some (.cells ty cs) ∧ cs[o]? = some d ∧ Y9 P h k d = some t)
open Classical in
def TW (P : Program) (g : G) (h : H) (b o : Nat) : Option D := if hx : ∃ t, TP P g h b o t then some (Classical.choose hx) else none
theorem TP_one {P : Program} {g : G} {h : H} (hbo : ∀ l b, g.blk l = some b → g.own b = some l) {b o : Nat} {t t' : D} (h1 : TP P g h b o t) (h2 : TP P g h b o t') : t = t' := by
  have both : ∀ k k' d, Y9 P h k d = some t → Y9 P h k' d = some t' → t = t' := fun k k' d a b => by
    have a' := Zrj a (Nat.le_max_left k k')
    have b' := Zrj b (Nat.le_max_right k k')
    rw [a'] at b'
    exact Option.some.inj b'
  rcases h1 with ⟨k, d, a1, a2⟩ | ⟨a0, k, l, ty, cs, d, a1, a2, a3, a4⟩
  · rcases h2 with ⟨k', d', b1, b2⟩ | ⟨b0, _⟩
    · rw [a1] at b1; cases b1; exact both k k' d a2 b2
    · rw [a1] at b0; cases b0
  · rcases h2 with ⟨k', d', b1, b2⟩ | ⟨b0, k', l', ty', cs', d', b1, b2, b3, b4⟩
    · rw [a0] at b1; cases b1
    · have e1 := hbo _ _ a1
      have e2 := hbo _ _ b1
      rw [e1] at e2
      cases e2
      rw [a2] at b2
      cases b2
      rw [a3] at b3
      cases b3
      exact both k k' d a4 b4
theorem Z6q {P : Program} {g : G} {h : H} (hbo : ∀ l b, g.blk l = some b → g.own b = some l) {b o : Nat} {t : D} (h1 : TP P g h b o t) : TW P g h b o = some t := by
  have hx : ∃ t, TP P g h b o t := ⟨t, h1⟩
  unfold TW
  rw [dif_pos hx]
  exact congrArg some (TP_one hbo (Classical.choose_spec hx) h1)
theorem Ztu {P : Program} {g : G} {h : H} {b o : Nat} {t : D} (h1 : TW P g h b o = some t) : TP P g h b o t := by
  unfold TW at h1
  split at h1
  · rename_i hx
    cases h1
    exact Classical.choose_spec hx
  · cases h1
theorem Zzb {P : Program} {top : Nat} {g : G} {h : H} {w : World} (hr : R P top g h w) {k : Nat} {d t : D} {v : Value} (hd : Y9 P h k d = some t) (hv : VRel g d v) : VRel (gT (TW P g h)) t v := by
  have hbo : ∀ l b, g.blk l = some b → g.own b = some l := fun l b hb => (hr.blkown l b hb).1
  refine Zuh (fun b o d t k h1 h2 => Z6q hbo (.inl ⟨k, d, h1, h2⟩)) (fun l b ty cs o d t k h1 h2 h3 h4 => Z6q hbo (.inr ⟨(hr.blkown l b h1).2 o, k, l, ty, cs, d, h1, h2, h3, h4⟩)) hd hv
theorem TW_ok {P : Program} {top : Nat} {g : G} {h : H} {w : World} (hr : R P top g h w) : OkT w (TW P g h) := by
  refine ⟨fun b o t ht => ?_, fun b o t ht => ?_⟩
  · rcases Ztu ht with ⟨k, d, h1, h2⟩ | ⟨h0, k, l, ty, cs, d, h1, h2, h3, h4⟩
    · obtain ⟨v, hv, hd⟩ := hr.imm b o d h1
      exact ⟨v, hv, Zzb hr h2 hd⟩
    · obtain ⟨b', ob, hb', hob, hlies⟩ := hr.obj l _ h2 (by intro n e hh; cases hh)
      rw [h1] at hb'
      cases hb'
      cases hlies with
      | cells hvs =>
        rename_i c
        obtain ⟨v, e, r⟩ := hvs.some h3
        refine ⟨v, ?_, Zzb hr h4 r⟩
        simp only [World.cell?, hob]
        simpa using e
  · rcases Ztu ht with ⟨k, d, h1, h2⟩ | ⟨h0, k, l, ty, cs, d, h1, h2, h3, h4⟩
    · exact Znj h2
    · exact Znj h4
theorem Z00 {P : Program} {top : Nat} {w w' : World} {T : Nat → Nat → Option D} (ok : OkT w T) {g' : G} {h' : H} (hext : Ext (gT T) Za9 w g' h' w') (hr : R P top g' h' w') :
    (∀ b o t, T b o = some t → TW P g' h' b o = some t) ∧ (∀ b o, b < w.heap.size → TW P g' h' b o = T b o) ∧ Below w.heap.size w w' := by
  have hbo : ∀ l b, g'.blk l = some b → g'.own b = some l := fun l b hb => (hr.blkown l b hb).1
  have up : ∀ b o t, T b o = some t → TW P g' h' b o = some t := fun b o t h0 => by
    obtain ⟨k, hk⟩ := ok.tree b o t h0
    exact Z6q hbo (.inl ⟨k, t, hext.le.imm b o t h0, hk P h'⟩)
  refine ⟨up, fun b o hlt => ?_, ⟨hext.os, hext.tape, hext.output, hext.size, fun k hk => hext.fr k hk (fun l hl => by cases hl)⟩⟩
  have himm := hext.immfr b hlt (fun l hl => by cases hl) o
  cases hT0 : T b o with
  | some t => exact up b o t hT0
  | none =>
    cases hw : TW P g' h' b o with
    | none => rfl
    | some t =>
      exfalso
      rcases Ztu hw with ⟨k, d, h1, h2⟩ | ⟨h0, k, l, ty, cs, d, h1, h2, h3, h4⟩
      · rw [himm] at h1
        have : T b o = some d := h1
        rw [hT0] at this
        cases this
      · have := hext.ownold b hlt
        rw [hbo l b h1] at this
        cases this
theorem Zms {P : Program} {glob : Nat → Option (List D)} {f : Nat} {lf : List D → H → O D} (hgt : ∀ i cs, glob i = some cs → ∀ d ∈ cs, Zl9 d)
    (hent : ∀ args w, (callFunc f args).run P w = .ok (.enter f args) w)
    (hl : ∀ ds h p d h', lf ds h = .mk p d h' → p = false ∧ h' = h ∧ (∀ x ∈ ds, Zl9 x) ∧ ∀ w T args, OkT w T → XI (gT T) glob → ZM (gT T) ds args.toList →
      Calls P f args w fun e w' => ∃ v T', e = .returned v ∧ OkT w' T' ∧ (∀ b o, b < w.heap.size → T' b o = T b o) ∧ Below w.heap.size w w' ∧ VRel (gT T') d v) : Yc P f lf glob := by
  intro ds h p d h' hrun top g w args htop hr hglob hargs
  obtain ⟨rfl, rfl, hds, hcall⟩ := hl ds h p d h' hrun
  let T : Nat → Nat → Option D := fun b o => match g.imm b o with
    | some d => open Classical in if Zl9 d then some d else none
    | none => none
  have Tof : ∀ b o d, g.imm b o = some d → Zl9 d → T b o = some d := fun b o d h1 h2 => by
    show (match g.imm b o with
      | some d => open Classical in if Zl9 d then some d else none
      | none => none) = some d
    rw [h1]
    exact if_pos h2
  have Tsp : ∀ b o d, T b o = some d → g.imm b o = some d ∧ Zl9 d := fun b o d h1 => by
    have h1 : (match g.imm b o with
      | some d => open Classical in if Zl9 d then some d else none
      | none => none) = some d := h1
    split at h1
    · rename_i d' hd'
      split at h1
      · rename_i ht
        cases h1
        exact ⟨hd', ht⟩
      · cases h1
    · cases h1
  have rel : ∀ {d : D} {v : Value}, Zl9 d → VRel g d v → VRel (gT T) d v := by
    intro d v ⟨k, hk⟩
    exact Zri (P := P) (fun b o d k h1 h2 => Tof b o d h1 (Znj h2)) (hk P Za9)
  have ok : OkT w T := ⟨fun b o d h1 => by
    obtain ⟨h2, h3⟩ := Tsp b o d h1
    obtain ⟨v, hv, hd⟩ := hr.imm b o d h2
    exact ⟨v, hv, rel h3 hd⟩, fun b o d h1 => (Tsp b o d h1).2⟩
  have hgl : XI (gT T) glob := by
    intro i cs hi
    have := hglob i cs hi
    cases this with
    | ep hc => exact .ep fun j d hj => Tof _ _ d (hc j d hj) (hgt i cs hi d (List.mem_of_getElem? hj))
  have hds' : ZM (gT T) ds args.toList := ⟨hargs.1, fun i d v h1 h2 => rel (hds d (List.mem_of_getElem? h1)) (hargs.2 i d v h1 h2)⟩
  refine .inl ⟨hent args w, (hcall w T args ok hgl hds').mono ?_⟩
  rintro e w' ⟨v, T', rfl, ok', hold, hbel, hv⟩
  refine ⟨v, rfl, ?_⟩
  let g' : G := ⟨g.blk, g.sl, g.own, fun b o => match g.imm b o with
    | some d => some d
    | none => if w.heap.size ≤ b then T' b o else none⟩
  have gimm : ∀ b o, g'.imm b o = match g.imm b o with
    | some d => some d
    | none => if w.heap.size ≤ b then T' b o else none := fun b o => rfl
  have hle : g.Le g' := ⟨fun _ _ x => x, fun _ _ _ x => x, fun b o d hd => by rw [gimm, hd]⟩
  have himold : ∀ b o, b < w.heap.size → g'.imm b o = g.imm b o := fun b o hlt => by
    rw [gimm]
    cases g.imm b o with
    | some d => rfl
    | none => exact if_neg (by omega)
  have hle' : (gT T').Le g' := ⟨fun _ _ x => (by cases x), fun _ _ _ x => (by cases x), fun b o d hd => by
    have hd : T' b o = some d := hd
    by_cases hlt : b < w.heap.size
    · rw [hold b o hlt] at hd
      rw [himold b o hlt]
      exact (Tsp b o d hd).1
    · have hn : g.imm b o = none := hr.imm_new (by omega) o
      rw [gimm, hn]
      exact (if_pos (by omega)).trans hd⟩
  obtain ⟨he, hr'⟩ := hr.below hbel
  refine ⟨g', ⟨hle, he.own, he.ownold, he.os, he.tape, he.output, he.size, he.fr, he.dom, he.next, fun l hf hn => hf, fun b hlt _ o => himold b o hlt, fun id n _ _ => rfl⟩, ?_, hv.mono hle'⟩
  refine ⟨fun l o ho hn => ?_, fun id n e hi => ?_, fun b o d hd => ?_, fun l b hb => ?_, hr'.slown, hr'.name, hr'.dom, hr'.le, hr'.block, hr'.pos, hr'.slblk, hr'.ownk⟩
  · obtain ⟨b, ob, h1, h2, h3⟩ := hr'.obj l o ho hn
    exact ⟨b, ob, h1, h2, h3.mono hle⟩
  · obtain ⟨b, cap, xs, h1, h2, h3, h4⟩ := hr'.tip id n e hi
    refine ⟨b, cap, xs, h1, h2, fun o ho => ?_, h4⟩
    have hlt : b < w.heap.size := Nat.lt_of_not_le fun hle => by
      have := hr.block b hle
      rw [hr.slown _ _ _ _ h1] at this
      cases this
    rw [himold b o hlt]
    exact h3 o ho
  · have hd : g'.imm b o = some d := hd
    rw [gimm] at hd
    cases hi : g.imm b o with
    | some d' =>
      rw [hi] at hd
      cases hd
      obtain ⟨v, hv, hd'⟩ := hr'.imm b o _ hi
      exact ⟨v, hv, hd'.mono hle⟩
    | none =>
      rw [hi] at hd
      have hd : (if w.heap.size ≤ b then T' b o else none) = some d := hd
      split at hd
      · obtain ⟨v, hv, hd'⟩ := ok'.cell b o d hd
        exact ⟨v, hv, hd'.mono hle'⟩
      · cases hd
  · have hlt : b < w.heap.size := Nat.lt_of_not_le fun hle => by
      have := hr.block b hle
      rw [(hr.blkown _ _ hb).1] at this
      cases this
    exact ⟨(hr'.blkown l b hb).1, fun o => by rw [himold b o hlt]; exact (hr'.blkown l b hb).2 o⟩
def Zp0 (o : O D) (P : Program) (k : Nat) (t : D) : Bool :=
  match o with
  | .ok d h' => match Y9 P h' k d with
    | some u => D.same u t
    | none => false
  | _ => false
theorem Z2j {o : O D} {P : Program} {k : Nat} {t : D} (h : Zp0 o P k t = true) : ∃ d h', o = .ok d h' ∧ Y9 P h' k d = some t := by
  unfold Zp0 at h
  split at h
  · rename_i d h'
    split at h
    · rename_i u hu
      exact ⟨d, h', rfl, by rw [hu, Zj9 h]⟩
    · cases h
  · cases h
def Yy (ds0 : List D) (t : D) : List D → H → O D := fun ds h => bif YP ds ds0 then .ok t h else .fail "another call"
theorem Zwh (ds0 : List D) (t : D) : ∀ ds h, XZ h (Yy ds0 t ds h) := fun ds h => Wu fun p d h' ho => by
  unfold Yy at ho
  cases hs : YP ds ds0 with
  | false => rw [hs] at ho; cases p <;> cases ho
  | true => rw [hs] at ho; cases p <;> cases ho; rfl
def Zc9 (P : Program) (k : Nat) : List D → Bool
  | [] => true
  | d :: r => (match Y9 P Za9 k d with
    | some u => D.same u d
    | none => false) && Zc9 P k r
theorem Zao {P : Program} {k : Nat} : ∀ {ds : List D}, Zc9 P k ds = true → ∀ d ∈ ds, Zl9 d
  | [], h, d, hd => by cases hd
  | x :: r, h, d, hd => by
    simp only [Zc9, Bool.and_eq_true] at h
    cases hd with
    | head =>
      have h1 := h.1
      split at h1
      · rename_i u hu
        exact Znj (by rw [hu, Zj9 h1])
      · cases h1
    | tail _ hd => exact Zao h.2 d hd
theorem Zyl {P : Program} {glob : Nat → Option (List D)} {E : Env} {tab : Nat → ZE} (ht : Told P glob E) (hT : Z6p E tab) (hgt : ∀ i cs, glob i = some cs → ∀ d ∈ cs, Zl9 d) {f n k : Nat} {ds0 : List D} {t : D}
    (hent : ∀ args w, (callFunc f args).run P w = .ok (.enter f args) w) (hds : Zc9 P k ds0 = true) (hrun : Zp0 (Xr E tab n f ds0 Za9) P k t = true) : Yc P f (Yy ds0 t) glob := by
  obtain ⟨d, h', hr, hd⟩ := Z2j hrun
  have hr' := (Zca hT n f ds0 Za9 (by rw [hr]; trivial)).trans hr
  refine Zms hgt hent fun ds h p d1 h1 h2 => ?_
  unfold Yy at h2
  cases hs : YP ds ds0 with
  | false => rw [hs] at h2; cases p <;> cases h2
  | true =>
    rw [hs] at h2
    have e := VT hs
    subst e
    cases p with
    | true => cases h2
    | false =>
      cases h2
      refine ⟨rfl, rfl, Zao hds, fun w T args ok hgl hargs => ?_⟩
      have hs := Zkz ht n f ds Za9 false d h' hr' (h'.next + 1) (gT T) w args (Nat.le_succ _) (ok.r (by omega)) hgl hargs
      rcases hs with ⟨_, hc⟩ | ⟨_, v, w', he, _⟩
      · refine hc.mono ?_
        rintro e w' ⟨v, rfl, g', hext, hr, hv⟩
        obtain ⟨h1, h2, h3⟩ := Z00 ok hext hr
        exact ⟨v, TW P g' h', rfl, TW_ok hr, h2, h3, Zzb hr hd hv⟩
      · rw [hent] at he; cases he
def Zsr (P : Program) (glob : Nat → Option (List D)) (k : Nat) (q : ZE) : Prop := ∀ lib : Nat → Option (List D → H → O D), lib k = none → Zzf (Zcc P glob lib) k q
theorem Z4 {P : Program} {glob : Nat → Option (List D)} {k m : Nat} {q : ZE} (hq : (Zws P glob k).map (Z57 m) = some q) : Zsr P glob k q := fun lib hl => Z2h hl hq
theorem Zff {P : Program} {glob : Nat → Option (List D)} {k : Nat} {q : ZE} (hq : (Zws P glob k).map Zc5 = some q) : Zsr P glob k q := fun lib hl => Z2f hl hq
theorem Zyq (P : Program) (glob : Nat → Option (List D)) (k : Nat) : Zsr P glob k Z43 := fun lib _ => Z2g _ k
def Zza (P : Program) (glob : Nat → Option (List D)) (T : Nat → ZE) : Prop := ∀ f, Zsr P glob f (T f)
theorem Z5 {P : Program} {glob : Nat → Option (List D)} {k : Nat} {q : ZE} (hq : Zsr P glob k q) : Zza P glob (Zg k q) := fun f => by
  unfold Zg
  cases hb : Nat.beq f k with
  | true => have := Nat.eq_of_beq_eq_true hb; subst this; exact hq
  | false => exact Zyq P glob f
theorem Z6 {P : Program} {glob : Nat → Option (List D)} {m : Nat} {a b : Nat → ZE} (ha : Zza P glob a) (hb : Zza P glob b) : Zza P glob (Zh m a b) := fun f => by
  unfold Zh
  cases Nat.blt f m with
  | true => exact ha f
  | false => exact hb f
def Zzm (lib : Nat → Option (List D → H → O D)) (T : Nat → ZE) : Nat → ZE := fun f => Option.rec (motive := fun _ => ZE) (T f) Wv (lib f)
theorem Zj3 {P : Program} {glob : Nat → Option (List D)} {T : Nat → ZE} (hT : Zza P glob T) (lib : Nat → Option (List D → H → O D)) : Z6p (Zcc P glob lib) (Zzm lib T) := fun f => by
  show Zzf _ f (Option.rec (motive := fun _ => ZE) (T f) Wv (lib f))
  cases hl : lib f with
  | none => exact hT f lib hl
  | some g => exact Z5u hl
end
end Go.Abs
namespace Go.Abs
noncomputable section
namespace Run
open Go.RowKit
def Zaj : Value → Option D
  | .int k n => some (.int k n)
  | .string s => some (.str (Yo s))
  | .bool b => some (.v (.bool b))
  | .slice none 0 0 => some (.v (.slice none 0 0))
  | _ => none
theorem Z1j {g : G} {x : Value} {d : D} (h : Zaj x = some d) : VRel g d x := by
  unfold Zaj at h
  split at h <;> cases h
  · exact .int _ _
  · exact .str _
  · exact .v _
  · exact .v _
def cell1 (w : World) (b o : Nat) : Option D :=
  match w.cell? ⟨b, o, none⟩ with
  | some x => Zaj x
  | none => none
def Zkb (w : World) (b : Nat) : Nat → Nat → Option (List D)
  | _, 0 => some []
  | o, n + 1 => match cell1 w b o, Zkb w b (o + 1) n with
    | some d, some r => some (d :: r)
    | _, _ => none
theorem Zo1 {w : World} {b : Nat} : ∀ {n o : Nat} {cs : List D}, Zkb w b o n = some cs → ∀ i d, cs[i]? = some d → cell1 w b (o + i) = some d
  | 0, o, cs, h, i, d, hi => by cases h; simp at hi
  | n + 1, o, cs, h, i, d, hi => by
    unfold Zkb at h
    split at h
    · rename_i d0 r h1 h2
      cases h
      cases i with
      | zero => cases hi; exact h1
      | succ i =>
        have := Zo1 h2 i d hi
        rw [Nat.add_assoc, Nat.add_comm 1] at this
        exact this
    · cases h
def sl1 (w : World) : Value → Option D
  | .slice (some a) n cap => bif Nat.ble n cap && (Nat.beq n 0 || a.spot.isNone) then (match Zkb w a.block a.off n with
    | some cs => some (.sl 0 n cs)
    | none => none) else none
  | _ => none
def Zky (w : World) (b o : Nat) : Option D :=
  match w.cell? ⟨b, o, none⟩ with
  | some x => match Zaj x with
    | some d => some d
    | none => sl1 w x
  | none => none
theorem Zsl {w : World} {b o : Nat} {d : D} (h : cell1 w b o = some d) : Zky w b o = some d := by
  unfold cell1 at h
  unfold Zky
  split at h
  · rename_i x hx
    simp only [h]
  · cases h
def gW (w : World) (ov : Nat → Nat → Option D) : G := ⟨fun _ => none, fun _ _ => none, fun _ => none, fun b o => match ov b o with
  | some d => some d
  | none => Zky w b o⟩
structure OvOk (w : World) (ov : Nat → Nat → Option D) : Prop where
  cell : ∀ b o d, ov b o = some d → ∃ v, w.cell? ⟨b, o, none⟩ = some v ∧ VRel (gW w ov) d v
  non1 : ∀ b o d, ov b o = some d → cell1 w b o = none
section
variable {w : World} {ov : Nat → Nat → Option D}
theorem Zti (ok : OvOk w ov) {b o : Nat} {d : D} (h : cell1 w b o = some d) : (gW w ov).imm b o = some d := by
  show (match ov b o with
    | some d => some d
    | none => Zky w b o) = some d
  cases ho : ov b o with
  | some d' => rw [ok.non1 b o d' ho] at h; cases h
  | none => exact Zsl h
theorem Z70 (ok : OvOk w ov) {x : Value} {d : D} (h : sl1 w x = some d) : VRel (gW w ov) d x := by
  unfold sl1 at h
  split at h
  · rename_i a n cap
    cases hq : Nat.ble n cap && (Nat.beq n 0 || a.spot.isNone) with
    | false => rw [hq] at h; cases h
    | true =>
      rw [hq] at h
      simp only [cond_true] at h
      simp only [Bool.and_eq_true, Bool.or_eq_true] at hq
      split at h
      · rename_i cs hcs
        cases h
        refine .sl (Nat.le_of_ble_eq_true hq.1) (fun i d hi => ⟨?_, Zti ok (Zo1 hcs i d hi)⟩) (fun e => absurd rfl e)
        rcases hq.2 with h0 | h0
        · have := Nat.eq_of_beq_eq_true h0
          subst this
          cases hcs
          simp at hi
        · cases hs : a.spot with
          | none => rfl
          | some s => rw [hs] at h0; cases h0
      · cases h
  · cases h
theorem Z2q (ok : OvOk w ov) {b o : Nat} {d : D} (h : Zky w b o = some d) : ∃ v, w.cell? ⟨b, o, none⟩ = some v ∧ VRel (gW w ov) d v := by
  unfold Zky at h
  split at h
  · rename_i x hx
    refine ⟨x, hx, ?_⟩
    split at h
    · rename_i d' hd
      cases h
      exact Z1j hd
    · exact Z70 ok h
  · cases h
theorem rW {P : Program} {top : Nat} (ok : OvOk w ov) (ht : 1 ≤ top) : R P top (gW w ov) Za9 w where
  obj := fun l o ho => by cases ho
  tip := fun id n e ho => by cases ho
  imm := fun b o d hd => by
    have hd : (match ov b o with
      | some d => some d
      | none => Zky w b o) = some d := hd
    split at hd
    · rename_i d' hov
      cases hd
      exact ok.cell b o _ hov
    · exact Z2q ok hd
  blkown := fun l b hb => by cases hb
  slown := fun id n b cap hb => by cases hb
  name := fun l _ _ => ⟨rfl, fun _ => rfl, fun b hb => by cases hb⟩
  dom := fun l _ => rfl
  le := ht
  block := fun _ _ => rfl
  pos := ⟨Nat.zero_lt_one, rfl⟩
  slblk := fun id n p hp => by cases hp
  ownk := fun b l hb => by cases hb
theorem Zt8 {P : Program} {glob : Nat → Option (List D)} {E : Env} {T : Nat → ZE} (ht : Told P glob E) (hT : Z6p E T) (hgl : XI (gW w ov) glob) (ok : OvOk w ov) {f : Nat} {ds : List D} {args : Array Value} {Q : D → H → Prop} (hc : WC E T f ds Za9 Q)
    (hargs : ZM (gW w ov) ds args.toList) (hb : ∀ args w, (callFunc f args).run P w = .ok (.enter f args) w) :
    Calls P f args w fun e w' => ∃ d h' v g', Q d h' ∧ e = .returned v ∧ R P (h'.next + 1) g' h' w' ∧ VRel g' d v ∧ Below w.heap.size w w' ∧ (gW w ov).Le g' := by
  obtain ⟨d, h', ⟨M, hM⟩, hq⟩ := hc
  have hrun := hM M (Nat.le_refl _)
  have hrun' := (Zca hT M f ds Za9 (by rw [hrun]; trivial)).trans hrun
  have hs := Zkz ht M f ds Za9 false d h' hrun' (h'.next + 1) (gW w ov) w args (Nat.le_succ _) (rW ok (by omega)) hgl hargs
  rcases hs with ⟨_, hc⟩ | ⟨_, v, w', he, _⟩
  · refine hc.mono ?_
    rintro e w' ⟨v, rfl, g', hext, hr, hv⟩
    exact ⟨d, h', v, g', hq, rfl, hr, hv, ⟨hext.os, hext.tape, hext.output, hext.size, fun k hk => hext.fr k hk (fun l hl => by cases hl)⟩, hext.le⟩
  · rw [hb] at he; cases he
end
def Z3w : D → Bool
  | .int _ _ => true
  | .str _ => true
  | _ => false
theorem Z71 {d : D} {v : Value} (hs : Z3w d = true) (h : ∀ g, VRel g d v) : Zaj v = some d := by
  have h := h ⟨fun _ => none, fun _ _ => none, fun _ => none, fun _ _ => none⟩
  cases h with
  | int k n => rfl
  | str s => rfl
  | v => cases hs
  | ptr => cases hs
  | ep => cases hs
  | sl => cases hs
  | row => cases hs
  | map => cases hs
  | agg => cases hs
  | tup => cases hs
  | func => cases hs
  | iface => cases hs
def Ztw (w : World) (a : Addr) (o : Nat) (vs : List Value) : Prop := ∀ j u, vs[j]? = some u → w.cell? ⟨a.block, a.off + o + j, none⟩ = some u
def Ztv (w : World) (v : Value) (size : Nat) (rows : List (List Value)) : Prop := (v = .slice none 0 0 ∧ rows = []) ∨ ∃ a cap, v = .slice (some a) rows.length cap ∧ rows.length ≤ cap ∧ (rows ≠ [] → a.spot = none) ∧ ∀ i r, rows[i]? = some r → Ztw w a (i * size) r
section
variable {w : World} {ov : Nat → Nat → Option D}
def Zmg (rows : List (List Value)) : List D := rows.flatMap fun r => r.map fun v => (Zaj v).getD Zj
end
open Go.Deep Go.ChangeShapes Go.WideShapes
section
variable {H : Type} {enc : TypeId × Value → H} {P : Program} {w : World} {base b0 : Nat} {spare : Nat → Bool} {held : Bool} {r : Reach}
theorem Znv {t e : TypeId} {v u : Value} (ht : P.underlying t = some (.slice e)) (h : Value.okWide P w r b0 t v) (hu : v.cells.toList = [u]) : v = u := by
  simp only [Value.okWide, ht] at h
  cases v
  case agg cs => exfalso; simp [Cell.okWide, Cell.ok, ht] at h
  all_goals (simp [Value.cells] at hu; exact hu)
theorem Zw9 {a : Addr} {k j : Nat} {u : Value} (h : w.cell? ((a.add k).add j) = some u) : w.cell? ⟨a.block, a.off + k + j, none⟩ = some u := by
  rw [add_add] at h
  have hs := World.cell?_spot h
  obtain ⟨b, o, s⟩ := a
  unfold Addr.add at h hs
  by_cases h0 : k + j = 0
  · simp only [h0, if_true] at h hs
    cases hs
    have e1 : k = 0 := by omega
    have e2 : j = 0 := by omega
    subst e1 e2
    exact h
  · simp only [h0, if_false] at h
    rw [Nat.add_assoc]
    exact h
theorem two {l : List Value} (h : l.length = 2) : ∃ a b, l = [a, b] := by
  match l, h with
  | [a, b], _ => exact ⟨a, b, rfl⟩
def Zq9 (k : IntKind) (p : Int × ByteArray) : List Value := [.int k p.1, .string p.2]
theorem Zx7 {t e : TypeId} {f0 f1 : Field} {k : IntKind} (ht : P.underlying t = some (.slice e)) (he : P.underlying e = some (.struct #[f0, f1])) (ce : P.cellsOf e = 2)
    (o0 : f0.offset = 0) (o1 : f1.offset = 1) (c0 : P.cellsOf f0.type = 1) (c1 : P.cellsOf f1.type = 1) (u0 : P.underlying f0.type = some (.int k)) (u1 : P.underlying f1.type = some .string)
    {fuel : Nat} {v : Value} {x : DataW H × List MemPlace} (hf : DataW.trod enc P w base spare held fuel t [v] = some x) : ∃ ss : List (Int × ByteArray), Ztv w v 2 (ss.map (Zq9 k)) ∧ (∀ p ∈ ss, (Lit.int k p.1).wf = true) ∧ ss.length ≤ maxLen := by
  rcases open_slice ht hf with ⟨hc, _⟩ | ⟨a, len, cap, m, n, D, Pl, hc, hb, hl, hm, hmm, _, hx⟩
  · cases hc; exact ⟨[], .inl ⟨rfl, rfl⟩, fun x hx => by simp at hx, Nat.zero_le _⟩
  cases hc
  have hlm : len ≤ m := by rw [hmm]; split <;> omega
  have each : ∀ i, i < len → ∃ p : Int × ByteArray, (Lit.int k p.1).wf = true ∧ Ztw w a (i * 2) (Zq9 k p) := by
    intro i hi
    obtain ⟨cs', h1, h2⟩ := hx i (by omega)
    rw [ce] at h1
    obtain ⟨_, hlen, hcell⟩ := World.cells?_some h1
    obtain ⟨k0, k1, rfl⟩ := two hlen
    obtain ⟨xs, n', _, _, _, hxl, hfs⟩ := DataW.trod_struct he h2
    have hxl : xs.length = 2 := hxl
    have g : ∀ j, j < 2 → ∃ z, xs[j]? = some z := fun j hj => ⟨_, List.getElem?_eq_getElem (by omega)⟩
    obtain ⟨z0, e0⟩ := g 0 (by omega)
    obtain ⟨z1, e1⟩ := g 1 (by omega)
    have t0 := hfs 0 f0 rfl
    have t1 := hfs 1 f1 rfl
    rw [o0, c0, e0] at t0
    rw [o1, c1, e1] at t1
    obtain ⟨n0, q0, _, w0⟩ := DataW.trod_int u0 t0
    obtain ⟨s1, q1, _⟩ := DataW.trod_string u1 t1
    cases q0
    cases q1
    refine ⟨(n0, s1), w0, ?_⟩
    intro j u hj
    have hj2 : j < 2 := by have := (List.getElem?_eq_some_iff.1 hj).1; simpa [Zq9] using this
    exact Zw9 ((hcell j hj2).trans hj)
  have : Inhabited (Int × ByteArray) := ⟨(0, .empty)⟩
  obtain ⟨f, hf⟩ := choose_lt each
  refine ⟨(List.range len).map f, .inr ⟨a, cap, by simp, by simpa using hl, ?_, ?_⟩, ?_, by simp; omega⟩
  · intro hne
    have h0 : 0 < len := by
      cases len with
      | zero => exact absurd rfl hne
      | succ n => omega
    obtain ⟨cs', h1, h2⟩ := hx 0 (by omega)
    rw [ce] at h1
    obtain ⟨_, hlen, hcell⟩ := World.cells?_some h1
    obtain ⟨k0, k1, rfl⟩ := two hlen
    have := hcell 0 (by omega)
    rw [Nat.zero_mul] at this
    exact World.cell?_spot (a := a) this
  · intro i x hi
    have hil : i < len := by have := (List.getElem?_eq_some_iff.1 hi).1; simpa using this
    rw [List.getElem?_map, List.getElem?_map, List.getElem?_range hil] at hi
    cases hi
    exact (hf i hil).2
  · intro x hx
    obtain ⟨i, hi, rfl⟩ := List.mem_map.1 hx
    exact (hf i (by simpa using hi)).1
end
end Run
end
end Go.Abs
