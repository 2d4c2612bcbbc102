/- A world's cells as trees without names: calls on trees, one behind the other. -/
import Derived.Test.YtgpdodcbkajfgaaGreatDoorNdSym
import Derived.Test.YtgpdodcbkajfgaaGreatDoorNdFast
import Derived.Deep.Slices
import Derived.ProofKit
import Derived.OpenShut
set_option linter.unusedVariables false
set_option linter.unusedSimpArgs false
namespace Go.Abs
open Go.RowKit
def Yq (f : D → Option D) : List D → Option (List D)
  | [] => some []
  | d :: r => match f d, Yq f r with
    | some t, some l => some (t :: l)
    | _, _ => none
theorem XB {f : D → Option D} : ∀ {ds ts : List D}, Yq f ds = some ts → ts.length = ds.length ∧ ∀ (i : Nat) t, ts[i]? = some t → ∃ d, ds[i]? = some d ∧ f d = some t
  | [], ts, h => by cases h; exact ⟨rfl, fun i t hi => by simp at hi⟩
  | d :: r, ts, h => by
    unfold Yq at h
    split at h
    · rename_i t l h1 h2
      cases h
      obtain ⟨hl, hr⟩ := XB h2
      refine ⟨by simp [hl], fun i u hi => ?_⟩
      cases i with
      | zero => cases hi; exact ⟨d, rfl, h1⟩
      | succ i => exact hr i u hi
    · cases h
theorem optMap_imp {f f' : D → Option D} (hf : ∀ d t, f d = some t → f' d = some t) : ∀ {ds ts : List D}, Yq f ds = some ts → Yq f' ds = some ts
  | [], ts, h => h
  | d :: r, ts, h => by
    unfold Yq at h
    split at h
    · rename_i t l h1 h2
      cases h
      simp only [Yq, hf d t h1, optMap_imp hf h2]
    · cases h
theorem optMap_id {f f' : D → Option D} (hf : ∀ d t, f d = some t → f' t = some t) : ∀ {ds ts : List D}, Yq f ds = some ts → Yq f' ts = some ts
  | [], ts, h => by cases h; rfl
  | d :: r, ts, h => by
    unfold Yq at h
    split at h
    · rename_i t l h1 h2
      cases h
      simp only [Yq, hf d t h1, optMap_id hf h2]
    · cases h
def ZM (P : Program) (h : H) : Nat → D → Option D
  | 0, _ => none
  | k + 1, d => match d with
    | .int i n => some (.int i n)
    | .str s => some (.str s)
    | .v x => some (.v x)
    | .sl _ n cs => match Yq (ZM P h k) cs with
      | some ts => some (.sl 0 n ts)
      | none => none
    | .ep cs => match Yq (ZM P h k) cs with
      | some ts => some (.ep ts)
      | none => none
    | .agg cs => match Yq (ZM P h k) cs with
      | some ts => some (.agg ts)
      | none => none
    | .tup cs => match Yq (ZM P h k) cs with
      | some ts => some (.tup ts)
      | none => none
    | .iface t d => match ZM P h k d with
      | some u => some (.iface t u)
      | none => none
    | .row l off n cap => match h.mem.get l with
      | some (.cells t cs) => bif Nat.ble n cap then (match Yq (ZM P h k) ((cs.drop off).take (n * P.cellsOf t)) with
        | some ts => some (.sl 0 n ts)
        | none => none) else none
      | _ => none
    | .ptr l off => match h.mem.get l with
      | some (.cells t cs) => match Yq (ZM P h k) (cs.drop off) with
        | some ts => some (.ep ts)
        | none => none
      | _ => none
    | _ => none
theorem treeOf_succ {P : Program} {h : H} : ∀ {k : Nat} {d t : D}, ZM P h k d = some t → ZM P h (k + 1) d = some t
  | 0, d, t, hd => by cases hd
  | k + 1, d, t, hd => by
    have ih : ∀ d t, ZM P h k d = some t → ZM P h (k + 1) d = some t := fun d t hd => treeOf_succ hd
    unfold ZM at hd ⊢
    split at hd
    · exact hd
    · exact hd
    · exact hd
    · split at hd
      · rename_i ts hm; cases hd; simp only [optMap_imp ih hm]
      · cases hd
    · split at hd
      · rename_i ts hm; cases hd; simp only [optMap_imp ih hm]
      · cases hd
    · split at hd
      · rename_i ts hm; cases hd; simp only [optMap_imp ih hm]
      · cases hd
    · split at hd
      · rename_i ts hm; cases hd; simp only [optMap_imp ih hm]
      · cases hd
    · split at hd
      · rename_i ts hm; cases hd; simp only [ih _ _ hm]
      · cases hd
    · split at hd
      · rename_i l off n cap _ ty cs hm
        cases hb : Nat.ble n cap with
        | false => rw [hb] at hd; cases hd
        | true =>
          rw [hb] at hd
          simp only [cond_true] at hd
          split at hd
          · rename_i ts ho; cases hd; simp only [hm, hb, cond_true, optMap_imp ih ho]
          · cases hd
      · cases hd
    · split at hd
      · rename_i l off _ ty cs hm
        split at hd
        · rename_i ts ho; cases hd; simp only [hm, optMap_imp ih ho]
        · cases hd
      · cases hd
    · cases hd
theorem treeOf_le {P : Program} {h : H} {k : Nat} {d t : D} (hd : ZM P h k d = some t) : ∀ {m : Nat}, k ≤ m → ZM P h m d = some t := by
  intro m hm
  induction hm with
  | refl => exact hd
  | step _ ih => exact treeOf_succ ih
theorem treeOf_id {P P' : Program} {h h' : H} : ∀ {k : Nat} {d t : D}, ZM P h k d = some t → ZM P' h' k t = some t
  | 0, d, t, hd => by cases hd
  | k + 1, d, t, hd => by
    have ih : ∀ d t, ZM P h k d = some t → ZM P' h' k t = some t := fun d t hd => treeOf_id hd
    unfold ZM at hd
    split at hd
    · cases hd; rfl
    · cases hd; rfl
    · cases hd; rfl
    · split at hd
      · rename_i ts hm; cases hd; simp only [ZM, optMap_id ih hm]
      · cases hd
    · split at hd
      · rename_i ts hm; cases hd; simp only [ZM, optMap_id ih hm]
      · cases hd
    · split at hd
      · rename_i ts hm; cases hd; simp only [ZM, optMap_id ih hm]
      · cases hd
    · split at hd
      · rename_i ts hm; cases hd; simp only [ZM, optMap_id ih hm]
      · cases hd
    · split at hd
      · rename_i ts hm; cases hd; simp only [ZM, ih _ _ hm]
      · cases hd
    · split at hd
      · rename_i l off n cap _ ty cs hm
        cases hb : Nat.ble n cap with
        | false => rw [hb] at hd; cases hd
        | true =>
          rw [hb] at hd
          simp only [cond_true] at hd
          split at hd
          · rename_i ts ho; cases hd; simp only [ZM, optMap_id ih ho]
          · cases hd
      · cases hd
    · split at hd
      · rename_i l off _ ty cs hm
        split at hd
        · rename_i ts ho; cases hd; simp only [ZM, optMap_id ih ho]
        · cases hd
      · cases hd
    · cases hd
def Tree (d : D) : Prop := ∃ k, ∀ P h, ZM P h k d = some d
theorem tree_of {P : Program} {h : H} {k : Nat} {d t : D} (hd : ZM P h k d = some t) : Tree t := ⟨k, fun P' h' => treeOf_id hd⟩
def gT (T : Nat → Nat → Option D) : G := ⟨fun _ => none, fun _ _ => none, fun _ => none, T⟩
structure OkT (w : World) (T : Nat → Nat → Option D) : Prop where
  cell : ∀ b o d, T b o = some d → ∃ v, w.cell? ⟨b, o, none⟩ = some v ∧ VRel (gT T) d v
  tree : ∀ b o d, T b o = some d → Tree d
theorem OkT.r {P : Program} {w : World} {T : Nat → Nat → Option D} (ok : OkT w T) {top : Nat} (ht : 1 ≤ top) : R P top (gT T) hTop w where
  obj := fun l o ho => by cases ho
  tip := fun id n e ho => by cases ho
  imm := fun b o d hd => ok.cell b o d hd
  blkown := fun l b hb => by cases hb
  slown := fun id n b cap hb => by cases hb
  name := fun l _ _ => ⟨rfl, fun _ => rfl, fun b hb => by cases hb⟩
  dom := fun l _ => rfl
  le := ht
  block := fun _ _ => rfl
  pos := ⟨Nat.zero_lt_one, rfl⟩
  slblk := fun id n p hp => by cases hp
  ownk := fun b l hb => by cases hb
theorem OkT.below {w w' : World} {T : Nat → Nat → Option D} (ok : OkT w T) (hb : Below w.heap.size w w') : OkT w' T := by
  refine ⟨fun b o d hd => ?_, ok.tree⟩
  obtain ⟨v, hv, hr⟩ := ok.cell b o d hd
  exact ⟨v, (hb.cell (World.block_lt_of_cell? w _ hv)).trans hv, hr⟩
theorem tree_rel {P : Program} {g : G} {h : H} {T : Nat → Nat → Option D} (h1 : ∀ b o d t k, g.imm b o = some d → ZM P h k d = some t → T b o = some t)
    (h2 : ∀ l b ty cs o d t k, g.blk l = some b → h.mem.get l = some (.cells ty cs) → cs[o]? = some d → ZM P h k d = some t → T b o = some t) :
    ∀ {k : Nat} {d t : D} {v : Value}, ZM P h k d = some t → VRel g d v → VRel (gT T) t v
  | 0, d, t, v, hd, _ => by cases hd
  | k + 1, d, t, v, hd, hv => by
    have ih : ∀ {d t : D} {v : Value}, ZM P h k d = some t → VRel g d v → VRel (gT T) t v := fun hd hv => tree_rel h1 h2 hd hv
    unfold ZM at hd
    split at hd
    · cases hd; cases hv; exact .int _ _
    · cases hd; cases hv; exact .str _
    · cases hd; cases hv; exact .v _
    · split at hd
      · rename_i ts hm
        cases hd
        cases hv with
        | sl hn hc _ =>
          refine .sl hn (fun i t hi => ?_) (fun e => absurd rfl e)
          obtain ⟨d, hdi, ht⟩ := (XB hm).2 i t hi
          exact ⟨(hc i d hdi).1, h1 _ _ d t k (hc i d hdi).2 ht⟩
      · cases hd
    · split at hd
      · rename_i ts hm
        cases hd
        cases hv with
        | ep hc =>
          refine .ep fun i t hi => ?_
          obtain ⟨d, hdi, ht⟩ := (XB hm).2 i t hi
          exact h1 _ _ d t k (hc i d hdi) ht
      · cases hd
    · split at hd
      · rename_i ts hm
        cases hd
        cases hv with
        | agg hl hc =>
          refine .agg ((XB hm).1.trans hl) fun i t u hi hu => ?_
          obtain ⟨d, hdi, ht⟩ := (XB hm).2 i t hi
          exact ih ht (hc i d u hdi hu)
      · cases hd
    · split at hd
      · rename_i ts hm
        cases hd
        cases hv with
        | tup hl hc =>
          refine .tup ((XB hm).1.trans hl) fun i t u hi hu => ?_
          obtain ⟨d, hdi, ht⟩ := (XB hm).2 i t hi
          exact ih ht (hc i d u hdi hu)
      · cases hd
    · split at hd
      · rename_i ts hm
        cases hd
        cases hv with
        | iface hx => exact .iface (ih hm hx)
      · cases hd
    · split at hd
      · rename_i l off n cap _ ty cs hm
        cases hb : Nat.ble n cap with
        | false => rw [hb] at hd; cases hd
        | true =>
          rw [hb] at hd
          simp only [cond_true] at hd
          split at hd
          · rename_i ts ho
            cases hd
            cases hv with
            | row hblk =>
              refine .sl (Nat.le_of_ble_eq_true hb) (fun i t hi => ⟨rfl, ?_⟩) (fun e => absurd rfl e)
              obtain ⟨d, hdi, ht⟩ := (XB ho).2 i t hi
              refine h2 l _ ty cs (off + i) d t k hblk hm ?_ ht
              rw [List.getElem?_take] at hdi
              split at hdi
              · rwa [List.getElem?_drop] at hdi
              · cases hdi
          · cases hd
      · cases hd
    · split at hd
      · rename_i l off _ ty cs hm
        split at hd
        · rename_i ts ho
          cases hd
          cases hv with
          | ptr hblk =>
            refine .ep fun i t hi => ?_
            obtain ⟨d, hdi, ht⟩ := (XB ho).2 i t hi
            refine h2 l _ ty cs (off + i) d t k hblk hm ?_ ht
            rwa [List.getElem?_drop] at hdi
        · cases hd
      · cases hd
    · cases hd
theorem fix_at {f : D → Option D} {cs : List D} (h : Yq f cs = some cs) {i : Nat} {d : D} (hi : cs[i]? = some d) : f d = some d := by
  obtain ⟨d', hd, hf⟩ := (XB h).2 i d hi
  rw [hi] at hd
  cases hd
  exact hf
theorem tree_relT {P : Program} {g : G} {T : Nat → Nat → Option D} (h1 : ∀ b o d k, g.imm b o = some d → ZM P hTop k d = some d → T b o = some d) :
    ∀ {k : Nat} {d : D} {v : Value}, ZM P hTop k d = some d → VRel g d v → VRel (gT T) d v
  | 0, d, v, hd, _ => by cases hd
  | k + 1, d, v, hd, hv => by
    have ih : ∀ {d : D} {v : Value}, ZM P hTop k d = some d → VRel g d v → VRel (gT T) d v := fun hd hv => tree_relT h1 hd hv
    cases hv with
    | v => exact .v _
    | int i n => exact .int i n
    | str s => exact .str s
    | ptr h => simp only [ZM, hTop, Tr.get] at hd; cases hd
    | row h => simp only [ZM, hTop, Tr.get] at hd; cases hd
    | map h => simp only [ZM] at hd; cases hd
    | func => simp only [ZM] at hd; cases hd
    | ep hc =>
      simp only [ZM] at hd
      split at hd
      · rename_i ts hm
        cases hd
        exact .ep fun i d hi => h1 _ _ d k (hc i d hi) (fix_at hm hi)
      · cases hd
    | sl hn hc _ =>
      simp only [ZM] at hd
      split at hd
      · rename_i ts hm
        cases hd
        exact .sl hn (fun i d hi => ⟨(hc i d hi).1, h1 _ _ d k (hc i d hi).2 (fix_at hm hi)⟩) (fun e => absurd rfl e)
      · cases hd
    | agg hl hc =>
      simp only [ZM] at hd
      split at hd
      · rename_i ts hm
        cases hd
        exact .agg hl fun i d u hi hu => ih (fix_at hm hi) (hc i d u hi hu)
      · cases hd
    | tup hl hc =>
      simp only [ZM] at hd
      split at hd
      · rename_i ts hm
        cases hd
        exact .tup hl fun i d u hi hu => ih (fix_at hm hi) (hc i d u hi hu)
      · cases hd
    | iface hx =>
      simp only [ZM] at hd
      split at hd
      · rename_i u hm
        cases hd
        exact .iface (ih hm hx)
      · cases hd
def TP (P : Program) (g : G) (h : H) (b o : Nat) (t : D) : Prop :=
  (∃ k d, g.imm b o = some d ∧ ZM P h k d = some t) ∨ (g.imm b o = none ∧ ∃ k l ty cs d, g.blk l = some b ∧ h.mem.get l = some (.cells ty cs) ∧ cs[o]? = some d ∧ ZM P h k d = some t)
open Classical in
noncomputable def TW (P : Program) (g : G) (h : H) (b o : Nat) : Option D := if hx : ∃ t, TP P g h b o t then some (Classical.choose hx) else none
theorem TP_one {P : Program} {g : G} {h : H} (hbo : ∀ l b, g.blk l = some b → g.own b = some l) {b o : Nat} {t t' : D} (h1 : TP P g h b o t) (h2 : TP P g h b o t') : t = t' := by
  have both : ∀ k k' d, ZM P h k d = some t → ZM P h k' d = some t' → t = t' := fun k k' d a b => by
    have a' := treeOf_le a (Nat.le_max_left k k')
    have b' := treeOf_le b (Nat.le_max_right k k')
    rw [a'] at b'
    exact Option.some.inj b'
  rcases h1 with ⟨k, d, a1, a2⟩ | ⟨a0, k, l, ty, cs, d, a1, a2, a3, a4⟩
  · rcases h2 with ⟨k', d', b1, b2⟩ | ⟨b0, _⟩
    · rw [a1] at b1; cases b1; exact both k k' d a2 b2
    · rw [a1] at b0; cases b0
  · rcases h2 with ⟨k', d', b1, b2⟩ | ⟨b0, k', l', ty', cs', d', b1, b2, b3, b4⟩
    · rw [a0] at b1; cases b1
    · have e1 := hbo _ _ a1
      have e2 := hbo _ _ b1
      rw [e1] at e2
      cases e2
      rw [a2] at b2
      cases b2
      rw [a3] at b3
      cases b3
      exact both k k' d a4 b4
theorem TW_eq {P : Program} {g : G} {h : H} (hbo : ∀ l b, g.blk l = some b → g.own b = some l) {b o : Nat} {t : D} (h1 : TP P g h b o t) : TW P g h b o = some t := by
  have hx : ∃ t, TP P g h b o t := ⟨t, h1⟩
  unfold TW
  rw [dif_pos hx]
  exact congrArg some (TP_one hbo (Classical.choose_spec hx) h1)
theorem TW_spec {P : Program} {g : G} {h : H} {b o : Nat} {t : D} (h1 : TW P g h b o = some t) : TP P g h b o t := by
  unfold TW at h1
  split at h1
  · rename_i hx
    cases h1
    exact Classical.choose_spec hx
  · cases h1
theorem TW_rel {P : Program} {top : Nat} {g : G} {h : H} {w : World} (hr : R P top g h w) {k : Nat} {d t : D} {v : Value} (hd : ZM P h k d = some t) (hv : VRel g d v) : VRel (gT (TW P g h)) t v := by
  have hbo : ∀ l b, g.blk l = some b → g.own b = some l := fun l b hb => (hr.blkown l b hb).1
  refine tree_rel (fun b o d t k h1 h2 => TW_eq hbo (.inl ⟨k, d, h1, h2⟩)) (fun l b ty cs o d t k h1 h2 h3 h4 => TW_eq hbo (.inr ⟨(hr.blkown l b h1).2 o, k, l, ty, cs, d, h1, h2, h3, h4⟩)) hd hv
theorem TW_ok {P : Program} {top : Nat} {g : G} {h : H} {w : World} (hr : R P top g h w) : OkT w (TW P g h) := by
  refine ⟨fun b o t ht => ?_, fun b o t ht => ?_⟩
  · rcases TW_spec ht with ⟨k, d, h1, h2⟩ | ⟨h0, k, l, ty, cs, d, h1, h2, h3, h4⟩
    · obtain ⟨v, hv, hd⟩ := hr.imm b o d h1
      exact ⟨v, hv, TW_rel hr h2 hd⟩
    · obtain ⟨b', ob, hb', hob, hlies⟩ := hr.obj l _ h2 (by intro n e hh; cases hh)
      rw [h1] at hb'
      cases hb'
      cases hlies with
      | cells hvs =>
        rename_i c
        obtain ⟨v, e, r⟩ := hvs.some h3
        refine ⟨v, ?_, TW_rel hr h4 r⟩
        simp only [World.cell?, hob]
        simpa using e
  · rcases TW_spec ht with ⟨k, d, h1, h2⟩ | ⟨h0, k, l, ty, cs, d, h1, h2, h3, h4⟩
    · exact tree_of h2
    · exact tree_of h4
theorem tree_post {P : Program} {top : Nat} {w w' : World} {T : Nat → Nat → Option D} (ok : OkT w T) {g' : G} {h' : H} (hext : Ext (gT T) hTop w g' h' w') (hr : R P top g' h' w') :
    (∀ b o t, T b o = some t → TW P g' h' b o = some t) ∧ (∀ b o, b < w.heap.size → TW P g' h' b o = T b o) ∧ Below w.heap.size w w' := by
  have hbo : ∀ l b, g'.blk l = some b → g'.own b = some l := fun l b hb => (hr.blkown l b hb).1
  have up : ∀ b o t, T b o = some t → TW P g' h' b o = some t := fun b o t h0 => by
    obtain ⟨k, hk⟩ := ok.tree b o t h0
    exact TW_eq hbo (.inl ⟨k, t, hext.le.imm b o t h0, hk P h'⟩)
  refine ⟨up, fun b o hlt => ?_, ⟨hext.os, hext.tape, hext.output, hext.size, fun k hk => hext.fr k hk (fun l hl => by cases hl)⟩⟩
  have himm := hext.immfr b hlt (fun l hl => by cases hl) o
  cases hT0 : T b o with
  | some t => exact up b o t hT0
  | none =>
    cases hw : TW P g' h' b o with
    | none => rfl
    | some t =>
      exfalso
      rcases TW_spec hw with ⟨k, d, h1, h2⟩ | ⟨h0, k, l, ty, cs, d, h1, h2, h3, h4⟩
      · rw [himm] at h1
        have : T b o = some d := h1
        rw [hT0] at this
        cases this
      · have := hext.ownold b hlt
        rw [hbo l b h1] at this
        cases this
theorem libTree_sim {P : Program} {glob : Nat → Option (List D)} {f : Nat} {lf : List D → H → O D} (hgt : ∀ i cs, glob i = some cs → ∀ d ∈ cs, Tree d)
    (hent : ∀ args w, (callFunc f args).run P w = .ok (.enter f args) w)
    (hl : ∀ ds h p d h', lf ds h = .mk p d h' → p = false ∧ h' = h ∧ (∀ x ∈ ds, Tree x) ∧ ∀ w T args, OkT w T → Xa (gT T) glob → ZS (gT T) ds args.toList →
      Calls P f args w fun e w' => ∃ v T', e = .returned v ∧ OkT w' T' ∧ (∀ b o, b < w.heap.size → T' b o = T b o) ∧ Below w.heap.size w w' ∧ VRel (gT T') d v) : Y4 P f lf glob := by
  intro ds h p d h' hrun top g w args htop hr hglob hargs
  obtain ⟨rfl, rfl, hds, hcall⟩ := hl ds h p d h' hrun
  let T : Nat → Nat → Option D := fun b o => match g.imm b o with
    | some d => open Classical in if Tree d then some d else none
    | none => none
  have Tof : ∀ b o d, g.imm b o = some d → Tree d → T b o = some d := fun b o d h1 h2 => by
    show (match g.imm b o with
      | some d => open Classical in if Tree d then some d else none
      | none => none) = some d
    rw [h1]
    exact if_pos h2
  have Tsp : ∀ b o d, T b o = some d → g.imm b o = some d ∧ Tree d := fun b o d h1 => by
    have h1 : (match g.imm b o with
      | some d => open Classical in if Tree d then some d else none
      | none => none) = some d := h1
    split at h1
    · rename_i d' hd'
      split at h1
      · rename_i ht
        cases h1
        exact ⟨hd', ht⟩
      · cases h1
    · cases h1
  have rel : ∀ {d : D} {v : Value}, Tree d → VRel g d v → VRel (gT T) d v := by
    intro d v ⟨k, hk⟩
    exact tree_relT (P := P) (fun b o d k h1 h2 => Tof b o d h1 (tree_of h2)) (hk P hTop)
  have ok : OkT w T := ⟨fun b o d h1 => by
    obtain ⟨h2, h3⟩ := Tsp b o d h1
    obtain ⟨v, hv, hd⟩ := hr.imm b o d h2
    exact ⟨v, hv, rel h3 hd⟩, fun b o d h1 => (Tsp b o d h1).2⟩
  have hgl : Xa (gT T) glob := by
    intro i cs hi
    have := hglob i cs hi
    cases this with
    | ep hc => exact .ep fun j d hj => Tof _ _ d (hc j d hj) (hgt i cs hi d (List.mem_of_getElem? hj))
  have hds' : ZS (gT T) ds args.toList := ⟨hargs.1, fun i d v h1 h2 => rel (hds d (List.mem_of_getElem? h1)) (hargs.2 i d v h1 h2)⟩
  refine .inl ⟨hent args w, (hcall w T args ok hgl hds').mono ?_⟩
  rintro e w' ⟨v, T', rfl, ok', hold, hbel, hv⟩
  refine ⟨v, rfl, ?_⟩
  let g' : G := ⟨g.blk, g.sl, g.own, fun b o => match g.imm b o with
    | some d => some d
    | none => if w.heap.size ≤ b then T' b o else none⟩
  have gimm : ∀ b o, g'.imm b o = match g.imm b o with
    | some d => some d
    | none => if w.heap.size ≤ b then T' b o else none := fun b o => rfl
  have hle : g.Le g' := ⟨fun _ _ x => x, fun _ _ _ x => x, fun b o d hd => by rw [gimm, hd]⟩
  have himold : ∀ b o, b < w.heap.size → g'.imm b o = g.imm b o := fun b o hlt => by
    rw [gimm]
    cases g.imm b o with
    | some d => rfl
    | none => exact if_neg (by omega)
  have hle' : (gT T').Le g' := ⟨fun _ _ x => (by cases x), fun _ _ _ x => (by cases x), fun b o d hd => by
    have hd : T' b o = some d := hd
    by_cases hlt : b < w.heap.size
    · rw [hold b o hlt] at hd
      rw [himold b o hlt]
      exact (Tsp b o d hd).1
    · have hn : g.imm b o = none := hr.imm_new (by omega) o
      rw [gimm, hn]
      exact (if_pos (by omega)).trans hd⟩
  obtain ⟨he, hr'⟩ := hr.below hbel
  refine ⟨g', ⟨hle, he.own, he.ownold, he.os, he.tape, he.output, he.size, he.fr, he.dom, he.next, fun l hf hn => hf, fun b hlt _ o => himold b o hlt, fun id n _ _ => rfl⟩, ?_, hv.mono hle'⟩
  refine ⟨fun l o ho hn => ?_, fun id n e hi => ?_, fun b o d hd => ?_, fun l b hb => ?_, hr'.slown, hr'.name, hr'.dom, hr'.le, hr'.block, hr'.pos, hr'.slblk, hr'.ownk⟩
  · obtain ⟨b, ob, h1, h2, h3⟩ := hr'.obj l o ho hn
    exact ⟨b, ob, h1, h2, h3.mono hle⟩
  · obtain ⟨b, cap, xs, h1, h2, h3, h4⟩ := hr'.tip id n e hi
    refine ⟨b, cap, xs, h1, h2, fun o ho => ?_, h4⟩
    have hlt : b < w.heap.size := Nat.lt_of_not_le fun hle => by
      have := hr.block b hle
      rw [hr.slown _ _ _ _ h1] at this
      cases this
    rw [himold b o hlt]
    exact h3 o ho
  · have hd : g'.imm b o = some d := hd
    rw [gimm] at hd
    cases hi : g.imm b o with
    | some d' =>
      rw [hi] at hd
      cases hd
      obtain ⟨v, hv, hd'⟩ := hr'.imm b o _ hi
      exact ⟨v, hv, hd'.mono hle⟩
    | none =>
      rw [hi] at hd
      have hd : (if w.heap.size ≤ b then T' b o else none) = some d := hd
      split at hd
      · obtain ⟨v, hv, hd'⟩ := ok'.cell b o d hd
        exact ⟨v, hv, hd'.mono hle'⟩
      · cases hd
  · have hlt : b < w.heap.size := Nat.lt_of_not_le fun hle => by
      have := hr.block b hle
      rw [(hr.blkown _ _ hb).1] at this
      cases this
    exact ⟨(hr'.blkown l b hb).1, fun o => by rw [himold b o hlt]; exact (hr'.blkown l b hb).2 o⟩
def isTree (o : O D) (P : Program) (k : Nat) (t : D) : Bool :=
  match o with
  | .ok d h' => match ZM P h' k d with
    | some u => D.same u t
    | none => false
  | _ => false
theorem isTree_eq {o : O D} {P : Program} {k : Nat} {t : D} (h : isTree o P k t = true) : ∃ d h', o = .ok d h' ∧ ZM P h' k d = some t := by
  unfold isTree at h
  split at h
  · rename_i d h'
    split at h
    · rename_i u hu
      exact ⟨d, h', rfl, by rw [hu, same_eq h]⟩
    · cases h
  · cases h
def Yp (ds0 : List D) (t : D) : List D → H → O D := fun ds h => bif YQ ds ds0 then .ok t h else .fail "another call"
theorem libRun_grow (ds0 : List D) (t : D) : ∀ ds h, Xm h (Yp ds0 t ds h) := fun ds h => XN fun p d h' ho => by
  unfold Yp at ho
  cases hs : YQ ds ds0 with
  | false => rw [hs] at ho; cases p <;> cases ho
  | true => rw [hs] at ho; cases p <;> cases ho; rfl
def XZ (P : Program) (k : Nat) : List D → Bool
  | [] => true
  | d :: r => (match ZM P hTop k d with
    | some u => D.same u d
    | none => false) && XZ P k r
theorem allTree_mem {P : Program} {k : Nat} : ∀ {ds : List D}, XZ P k ds = true → ∀ d ∈ ds, Tree d
  | [], h, d, hd => by cases hd
  | x :: r, h, d, hd => by
    simp only [XZ, Bool.and_eq_true] at h
    cases hd with
    | head =>
      have h1 := h.1
      split at h1
      · rename_i u hu
        exact tree_of (by rw [hu, same_eq h1])
      · cases h1
    | tail _ hd => exact allTree_mem h.2 d hd
theorem libRun_sim {P : Program} {glob : Nat → Option (List D)} {E : Env} {tab : Nat → FFn} (ht : Told P glob E) (hT : Tab E tab) (hgt : ∀ i cs, glob i = some cs → ∀ d ∈ cs, Tree d) {f n k : Nat} {ds0 : List D} {t : D}
    (hent : ∀ args w, (callFunc f args).run P w = .ok (.enter f args) w) (hds : XZ P k ds0 = true) (hrun : isTree (Yb E tab n f ds0 hTop) P k t = true) : Y4 P f (Yp ds0 t) glob := by
  obtain ⟨d, h', hr, hd⟩ := isTree_eq hrun
  have hr' := (fcall_ok hT n f ds0 hTop (by rw [hr]; trivial)).trans hr
  refine libTree_sim hgt hent fun ds h p d1 h1 h2 => ?_
  unfold Yp at h2
  cases hs : YQ ds ds0 with
  | false => rw [hs] at h2; cases p <;> cases h2
  | true =>
    rw [hs] at h2
    have e := sames_eq hs
    subst e
    cases p with
    | true => cases h2
    | false =>
      cases h2
      refine ⟨rfl, rfl, allTree_mem hds, fun w T args ok hgl hargs => ?_⟩
      have hs := call_sim ht n f ds hTop false d h' hr' (h'.next + 1) (gT T) w args (Nat.le_succ _) (ok.r (by omega)) hgl hargs
      rcases hs with ⟨_, hc⟩ | ⟨_, v, w', he, _⟩
      · refine hc.mono ?_
        rintro e w' ⟨v, rfl, g', hext, hr, hv⟩
        obtain ⟨h1, h2, h3⟩ := tree_post ok hext hr
        exact ⟨v, TW P g' h', rfl, TW_ok hr, h2, h3, TW_rel hr hd hv⟩
      · rw [hent] at he; cases he
def Zq (P : Program) (glob : Nat → Option (List D)) (k : Nat) (q : FFn) : Prop := ∀ lib : Nat → Option (List D → H → O D), lib k = none → Leaf (envOf P glob lib) k q
theorem Z5 {P : Program} {glob : Nat → Option (List D)} {k m : Nat} {q : FFn} (hq : (fnsOf P glob k).map (fcfn m) = some q) : Zq P glob k q := fun lib hl => leaf_fast hl hq
theorem leafA_slow {P : Program} {glob : Nat → Option (List D)} {k : Nat} {q : FFn} (hq : (fnsOf P glob k).map fslow = some q) : Zq P glob k q := fun lib hl => leaf_slow hl hq
theorem leafA_none (P : Program) (glob : Nat → Option (List D)) (k : Nat) : Zq P glob k qnone := fun lib _ => leaf_none _ k
def TabA (P : Program) (glob : Nat → Option (List D)) (T : Nat → FFn) : Prop := ∀ f, Zq P glob f (T f)
theorem Z7 {P : Program} {glob : Nat → Option (List D)} {k : Nat} {q : FFn} (hq : Zq P glob k q) : TabA P glob (Zs k q) := fun f => by
  unfold Zs
  cases hb : Nat.beq f k with
  | true => have := Nat.eq_of_beq_eq_true hb; subst this; exact hq
  | false => exact leafA_none P glob f
theorem Z8 {P : Program} {glob : Nat → Option (List D)} {m : Nat} {a b : Nat → FFn} (ha : TabA P glob a) (hb : TabA P glob b) : TabA P glob (Zt m a b) := fun f => by
  unfold Zt
  cases Nat.blt f m with
  | true => exact ha f
  | false => exact hb f
def tover (lib : Nat → Option (List D → H → O D)) (T : Nat → FFn) : Nat → FFn := fun f => Option.casesOn (motive := fun _ => FFn) (lib f) (T f) flib
theorem tab_over {P : Program} {glob : Nat → Option (List D)} {T : Nat → FFn} (hT : TabA P glob T) (lib : Nat → Option (List D → H → O D)) : Tab (envOf P glob lib) (tover lib T) := fun f => by
  show Leaf _ f (Option.casesOn (motive := fun _ => FFn) (lib f) (T f) flib)
  cases hl : lib f with
  | none => exact hT f lib hl
  | some g => exact leaf_lib hl
end Go.Abs
namespace Go.Abs
namespace Run
open Go.RowKit
def simp1 : Value → Option D
  | .int k n => some (.int k n)
  | .string s => some (.str (Yf s))
  | .bool b => some (.v (.bool b))
  | .slice none 0 0 => some (.v (.slice none 0 0))
  | _ => none
def cell1 (w : World) (b o : Nat) : Option D :=
  match w.cell? ⟨b, o, none⟩ with
  | some x => simp1 x
  | none => none
def row1 (w : World) (b : Nat) : Nat → Nat → Option (List D)
  | _, 0 => some []
  | o, n + 1 => match cell1 w b o, row1 w b (o + 1) n with
    | some d, some r => some (d :: r)
    | _, _ => none
def sl1 (w : World) : Value → Option D
  | .slice (some a) n cap => bif Nat.ble n cap && (Nat.beq n 0 || a.spot.isNone) then (match row1 w a.block a.off n with
    | some cs => some (.sl 0 n cs)
    | none => none) else none
  | _ => none
def cellD (w : World) (b o : Nat) : Option D :=
  match w.cell? ⟨b, o, none⟩ with
  | some x => match simp1 x with
    | some d => some d
    | none => sl1 w x
  | none => none
def gW (w : World) (ov : Nat → Nat → Option D) : G := ⟨fun _ => none, fun _ _ => none, fun _ => none, fun b o => match ov b o with
  | some d => some d
  | none => cellD w b o⟩
structure OvOk (w : World) (ov : Nat → Nat → Option D) : Prop where
  cell : ∀ b o d, ov b o = some d → ∃ v, w.cell? ⟨b, o, none⟩ = some v ∧ VRel (gW w ov) d v
  non1 : ∀ b o d, ov b o = some d → cell1 w b o = none
section
variable {w : World} {ov : Nat → Nat → Option D}
end
section
variable {w : World} {ov : Nat → Nat → Option D}
end
open Go.Deep Go.ChangeShapes Go.WideShapes
section
variable {H : Type} {enc : TypeId × Value → H} {P : Program} {w : World} {base b0 : Nat} {spare : Nat → Bool} {held : Bool} {r : Reach}
theorem two {l : List Value} (h : l.length = 2) : ∃ a b, l = [a, b] := by
  match l, h with
  | [a, b], _ => exact ⟨a, b, rfl⟩
end
end Run
end Go.Abs
