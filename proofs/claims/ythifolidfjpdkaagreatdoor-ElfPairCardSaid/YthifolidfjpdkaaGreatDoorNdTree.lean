/- A world's cells as trees without names: calls on trees, one behind the other. -/
import Derived.Test.YthifolidfjpdkaaGreatDoorNdSym
import Derived.Test.YthifolidfjpdkaaGreatDoorNdFast
import Derived.Deep.Slices
import Derived.ProofKit
import Derived.OpenShut
set_option linter.unusedVariables false
set_option linter.unusedSimpArgs false
namespace Go.Abs
noncomputable section
open Go.RowKit
def Yg (f : D → Option D) : List D → Option (List D)
  | [] => some []
  | d :: r => match f d,Yg f r with
    | some t,some l => some (t :: l)
    | _,_ => none
theorem Vt {f : D → Option D} : ∀ {ds ts : List D},Yg f ds = some ts → ts.length = ds.length ∧ ∀ (i : Nat) t,ts[i]? = some t → ∃ d,ds[i]? = some d ∧ f d = some t
  | [],ts,h => by cases h; exact ⟨rfl,fun i t hi => by simp at hi⟩
  | d :: r,ts,h => by
    unfold Yg at h
    split at h
    · rename_i t l h1 h2
      cases h
      obtain ⟨hl,hr⟩ := Vt h2
      refine ⟨by simp [hl],fun i u hi => ?_⟩
      cases i with
      | zero => cases hi; exact ⟨d,rfl,h1⟩
      | succ i => exact hr i u hi
    · cases h
theorem Vn {f f' : D → Option D} (hf : ∀ d t,f d = some t → f' d = some t) : ∀ {ds ts : List D},Yg f ds = some ts → Yg f' ds = some ts
  | [],ts,h => h
  | d :: r,ts,h => by
    unfold Yg at h
    split at h
    · rename_i t l h1 h2
      cases h
      simp only [Yg,hf d t h1,Vn hf h2]
    · cases h
theorem Zbz {f f' : D → Option D} (hf : ∀ d t,f d = some t → f' t = some t) : ∀ {ds ts : List D},Yg f ds = some ts → Yg f' ts = some ts
  | [],ts,h => by cases h; rfl
  | d :: r,ts,h => by
    unfold Yg at h
    split at h
    · rename_i t l h1 h2
      cases h
      simp only [Yg,hf d t h1,Zbz hf h2]
    · cases h
def Zj (P : Program) (h : H) : Nat → D → Option D
  | 0,_ => none
  | k + 1,d => match d with
    | .int i n => some (.int i n)
    | .str s => some (.str s)
    | .v x => some (.v x)
    | .sl _ n cs => match Yg (Zj P h k) cs with
      | some ts => some (.sl 0 n ts)
      | none => none
    | .ep cs => match Yg (Zj P h k) cs with
      | some ts => some (.ep ts)
      | none => none
    | .agg cs => match Yg (Zj P h k) cs with
      | some ts => some (.agg ts)
      | none => none
    | .tup cs => match Yg (Zj P h k) cs with
      | some ts => some (.tup ts)
      | none => none
    | .iface t d => match Zj P h k d with
      | some u => some (.iface t u)
      | none => none
    | .row l off n cap => match h.mem.get l with
      | some (.cells t cs) => bif Nat.ble n cap then (match Yg (Zj P h k) ((cs.drop off).take (n * P.cellsOf t)) with
        | some ts => some (.sl 0 n ts)
        | none => none) else none
      | _ => none
    | .ptr l off => match h.mem.get l with
      | some (.cells t cs) => match Yg (Zj P h k) (cs.drop off) with
        | some ts => some (.ep ts)
        | none => none
      | _ => none
    | _ => none
theorem Zmb {P : Program} {h : H} : ∀ {k : Nat} {d t : D},Zj P h k d = some t → Zj P h (k + 1) d = some t
  | 0,d,t,hd => by cases hd
  | k + 1,d,t,hd => by
    have ih : ∀ d t,Zj P h k d = some t → Zj P h (k + 1) d = some t := fun d t hd => Zmb hd
    unfold Zj at hd ⊢
    split at hd
    · exact hd
    · exact hd
    · exact hd
    · split at hd
      · rename_i ts hm; cases hd; simp only [Vn ih hm]
      · cases hd
    · split at hd
      · rename_i ts hm; cases hd; simp only [Vn ih hm]
      · cases hd
    · split at hd
      · rename_i ts hm; cases hd; simp only [Vn ih hm]
      · cases hd
    · split at hd
      · rename_i ts hm; cases hd; simp only [Vn ih hm]
      · cases hd
    · split at hd
      · rename_i ts hm; cases hd; simp only [ih _ _ hm]
      · cases hd
    · split at hd
      · rename_i l off n cap _ ty cs hm
        cases hb : Nat.ble n cap with
        | false => rw [hb] at hd; cases hd
        | true =>
          rw [hb] at hd
          simp only [cond_true] at hd
          split at hd
          · rename_i ts ho; cases hd; simp only [hm,hb,cond_true,Vn ih ho]
          · cases hd
      · cases hd
    · split at hd
      · rename_i l off _ ty cs hm
        split at hd
        · rename_i ts ho; cases hd; simp only [hm,Vn ih ho]
        · cases hd
      · cases hd
    · cases hd
theorem Zfj {P : Program} {h : H} {k : Nat} {d t : D} (hd : Zj P h k d = some t) : ∀ {m : Nat},k ≤ m → Zj P h m d = some t := by
  intro m hm
  induction hm with
  | refl => exact hd
  | step _ ih => exact Zmb ih
theorem Zqb {P P' : Program} {h h' : H} : ∀ {k : Nat} {d t : D},Zj P h k d = some t → Zj P' h' k t = some t
  | 0,d,t,hd => by cases hd
  | k + 1,d,t,hd => by
    have ih : ∀ d t,Zj P h k d = some t → Zj P' h' k t = some t := fun d t hd => Zqb hd
    unfold Zj at hd
    split at hd
    · cases hd; rfl
    · cases hd; rfl
    · cases hd; rfl
    · split at hd
      · rename_i ts hm; cases hd; simp only [Zj,Zbz ih hm]
      · cases hd
    · split at hd
      · rename_i ts hm; cases hd; simp only [Zj,Zbz ih hm]
      · cases hd
    · split at hd
      · rename_i ts hm; cases hd; simp only [Zj,Zbz ih hm]
      · cases hd
    · split at hd
      · rename_i ts hm; cases hd; simp only [Zj,Zbz ih hm]
      · cases hd
    · split at hd
      · rename_i ts hm; cases hd; simp only [Zj,ih _ _ hm]
      · cases hd
    · split at hd
      · rename_i l off n cap _ ty cs hm
        cases hb : Nat.ble n cap with
        | false => rw [hb] at hd; cases hd
        | true =>
          rw [hb] at hd
          simp only [cond_true] at hd
          split at hd
          · rename_i ts ho; cases hd; simp only [Zj,Zbz ih ho]
          · cases hd
      · cases hd
    · split at hd
      · rename_i l off _ ty cs hm
        split at hd
        · rename_i ts ho; cases hd; simp only [Zj,Zbz ih ho]
        · cases hd
      · cases hd
    · cases hd
def Ziv (d : D) : Prop := ∃ k,∀ P h,Zj P h k d = some d
theorem Zm4 {P : Program} {h : H} {k : Nat} {d t : D} (hd : Zj P h k d = some t) : Ziv t := ⟨k,fun P' h' => Zqb hd⟩
def gT (T : Nat → Nat → Option D) : G := ⟨fun _ => none,fun _ _ => none,fun _ => none,T⟩
structure OkT (w : World) (T : Nat → Nat → Option D) : Prop where
  cell : ∀ b o d,T b o = some d → ∃ v,w.cell? ⟨b,o,none⟩ = some v ∧ VRel (gT T) d v
  tree : ∀ b o d,T b o = some d → Ziv d
theorem OkT.r {P : Program} {w : World} {T : Nat → Nat → Option D} (ok : OkT w T) {top : Nat} (ht : 1 ≤ top) : R P top (gT T) UM w where
  obj := fun l o ho => by cases ho
  tip := fun id n e ho => by cases ho
  imm := fun b o d hd => ok.cell b o d hd
  blkown := fun l b hb => by cases hb
  slown := fun id n b cap hb => by cases hb
  name := fun l _ _ => ⟨rfl,fun _ => rfl,fun b hb => by cases hb⟩
  dom := fun l _ => rfl
  le := ht
  block := fun _ _ => rfl
  pos := ⟨Nat.zero_lt_one,rfl⟩
  slblk := fun id n p hp => by cases hp
  ownk := fun b l hb => by cases hb
theorem OkT.below {w w' : World} {T : Nat → Nat → Option D} (ok : OkT w T) (hb : Below w.heap.size w w') : OkT w' T := by
  refine ⟨fun b o d hd => ?_,ok.tree⟩
  obtain ⟨v,hv,hr⟩ := ok.cell b o d hd
  exact ⟨v,(hb.cell (World.block_lt_of_cell? w _ hv)).trans hv,hr⟩
theorem Zto {P : Program} {g : G} {h : H} {T : Nat → Nat → Option D} (h1 : ∀ b o d t k,g.imm b o = some d → Zj P h k d = some t → T b o = some t)
    (h2 : ∀ l b ty cs o d t k,g.blk l = some b → h.mem.get l = some (.cells ty cs) → cs[o]? = some d → Zj P h k d = some t → T b o = some t) :
    ∀ {k : Nat} {d t : D} {v : Value},Zj P h k d = some t → VRel g d v → VRel (gT T) t v
  | 0,d,t,v,hd,_ => by cases hd
  | k + 1,d,t,v,hd,hv => by
    have ih : ∀ {d t : D} {v : Value},Zj P h k d = some t → VRel g d v → VRel (gT T) t v := fun hd hv => Zto h1 h2 hd hv
    unfold Zj at hd
    split at hd
    · cases hd; cases hv; exact .int _ _
    · cases hd; cases hv; exact .str _
    · cases hd; cases hv; exact .v _
    · split at hd
      · rename_i ts hm
        cases hd
        cases hv with
        | sl hn hc _ =>
          refine .sl hn (fun i t hi => ?_) (fun e => absurd rfl e)
          obtain ⟨d,hdi,ht⟩ := (Vt hm).2 i t hi
          exact ⟨(hc i d hdi).1,h1 _ _ d t k (hc i d hdi).2 ht⟩
      · cases hd
    · split at hd
      · rename_i ts hm
        cases hd
        cases hv with
        | ep hc =>
          refine .ep fun i t hi => ?_
          obtain ⟨d,hdi,ht⟩ := (Vt hm).2 i t hi
          exact h1 _ _ d t k (hc i d hdi) ht
      · cases hd
    · split at hd
      · rename_i ts hm
        cases hd
        cases hv with
        | agg hl hc =>
          refine .agg ((Vt hm).1.trans hl) fun i t u hi hu => ?_
          obtain ⟨d,hdi,ht⟩ := (Vt hm).2 i t hi
          exact ih ht (hc i d u hdi hu)
      · cases hd
    · split at hd
      · rename_i ts hm
        cases hd
        cases hv with
        | tup hl hc =>
          refine .tup ((Vt hm).1.trans hl) fun i t u hi hu => ?_
          obtain ⟨d,hdi,ht⟩ := (Vt hm).2 i t hi
          exact ih ht (hc i d u hdi hu)
      · cases hd
    · split at hd
      · rename_i ts hm
        cases hd
        cases hv with
        | iface hx => exact .iface (ih hm hx)
      · cases hd
    · split at hd
      · rename_i l off n cap _ ty cs hm
        cases hb : Nat.ble n cap with
        | false => rw [hb] at hd; cases hd
        | true =>
          rw [hb] at hd
          simp only [cond_true] at hd
          split at hd
          · rename_i ts ho
            cases hd
            cases hv with
            | row hblk =>
              refine .sl (Nat.le_of_ble_eq_true hb) (fun i t hi => ⟨rfl, ?_⟩) (fun e => absurd rfl e)
              obtain ⟨d,hdi,ht⟩ := (Vt ho).2 i t hi
              refine h2 l _ ty cs (off + i) d t k hblk hm ?_ ht
              rw [List.getElem?_take] at hdi
              split at hdi
              · rwa [List.getElem?_drop] at hdi
              · cases hdi
          · cases hd
      · cases hd
    · split at hd
      · rename_i l off _ ty cs hm
        split at hd
        · rename_i ts ho
          cases hd
          cases hv with
          | ptr hblk =>
            refine .ep fun i t hi => ?_
            obtain ⟨d,hdi,ht⟩ := (Vt ho).2 i t hi
            refine h2 l _ ty cs (off + i) d t k hblk hm ?_ ht
            rwa [List.getElem?_drop] at hdi
        · cases hd
      · cases hd
    · cases hd
theorem Zs0 {f : D → Option D} {cs : List D} (h : Yg f cs = some cs) {i : Nat} {d : D} (hi : cs[i]? = some d) : f d = some d := by
  obtain ⟨d',hd,hf⟩ := (Vt h).2 i d hi
  rw [hi] at hd
  cases hd
  exact hf
theorem Zp9 {P : Program} {g : G} {T : Nat → Nat → Option D} (h1 : ∀ b o d k,g.imm b o = some d → Zj P UM k d = some d → T b o = some d) :
    ∀ {k : Nat} {d : D} {v : Value},Zj P UM k d = some d → VRel g d v → VRel (gT T) d v
  | 0,d,v,hd,_ => by cases hd
  | k + 1,d,v,hd,hv => by
    have ih : ∀ {d : D} {v : Value},Zj P UM k d = some d → VRel g d v → VRel (gT T) d v := fun hd hv => Zp9 h1 hd hv
    cases hv with
    | v => exact .v _
    | int i n => exact .int i n
    | str s => exact .str s
    | ptr h => simp only [Zj,UM,Tr.get] at hd; cases hd
    | row h => simp only [Zj,UM,Tr.get] at hd; cases hd
    | map h => simp only [Zj] at hd; cases hd
    | func => simp only [Zj] at hd; cases hd
    | ep hc =>
      simp only [Zj] at hd
      split at hd
      · rename_i ts hm
        cases hd
        exact .ep fun i d hi => h1 _ _ d k (hc i d hi) (Zs0 hm hi)
      · cases hd
    | sl hn hc _ =>
      simp only [Zj] at hd
      split at hd
      · rename_i ts hm
        cases hd
        exact .sl hn (fun i d hi => ⟨(hc i d hi).1,h1 _ _ d k (hc i d hi).2 (Zs0 hm hi)⟩) (fun e => absurd rfl e)
      · cases hd
    | agg hl hc =>
      simp only [Zj] at hd
      split at hd
      · rename_i ts hm
        cases hd
        exact .agg hl fun i d u hi hu => ih (Zs0 hm hi) (hc i d u hi hu)
      · cases hd
    | tup hl hc =>
      simp only [Zj] at hd
      split at hd
      · rename_i ts hm
        cases hd
        exact .tup hl fun i d u hi hu => ih (Zs0 hm hi) (hc i d u hi hu)
      · cases hd
    | iface hx =>
      simp only [Zj] at hd
      split at hd
      · rename_i u hm
        cases hd
        exact .iface (ih hm hx)
      · cases hd
def TP (P : Program) (g : G) (h : H) (b o : Nat) (t : D) : Prop :=
  (∃ k d,g.imm b o = some d ∧ Zj P h k d = some t) ∨ (g.imm b o = none ∧ ∃ k l ty cs d,g.blk l = some b ∧ h.mem.get l = some (.cells ty cs) ∧ cs[o]? = some d ∧ Zj P h k d = some t)
open Classical in
def TW (P : Program) (g : G) (h : H) (b o : Nat) : Option D := if hx : ∃ t,TP P g h b o t then some (Classical.choose hx) else none
theorem TP_one {P : Program} {g : G} {h : H} (hbo : ∀ l b,g.blk l = some b → g.own b = some l) {b o : Nat} {t t' : D} (h1 : TP P g h b o t) (h2 : TP P g h b o t') : t = t' := by
  have both : ∀ k k' d,Zj P h k d = some t → Zj P h k' d = some t' → t = t' := fun k k' d a b => by
    have a' := Zfj a (Nat.le_max_left k k')
    have b' := Zfj b (Nat.le_max_right k k')
    rw [a'] at b'
    exact Option.some.inj b'
  rcases h1 with ⟨k,d,a1,a2⟩ | ⟨a0,k,l,ty,cs,d,a1,a2,a3,a4⟩
  · rcases h2 with ⟨k',d',b1,b2⟩ | ⟨b0,_⟩
    · rw [a1] at b1; cases b1; exact both k k' d a2 b2
    · rw [a1] at b0; cases b0
  · rcases h2 with ⟨k',d',b1,b2⟩ | ⟨b0,k',l',ty',cs',d',b1,b2,b3,b4⟩
    · rw [a0] at b1; cases b1
    · have e1 := hbo _ _ a1
      have e2 := hbo _ _ b1
      rw [e1] at e2
      cases e2
      rw [a2] at b2
      cases b2
      rw [a3] at b3
      cases b3
      exact both k k' d a4 b4
theorem Z56 {P : Program} {g : G} {h : H} (hbo : ∀ l b,g.blk l = some b → g.own b = some l) {b o : Nat} {t : D} (h1 : TP P g h b o t) : TW P g h b o = some t := by
  have hx : ∃ t,TP P g h b o t := ⟨t,h1⟩
  unfold TW
  rw [dif_pos hx]
  exact congrArg some (TP_one hbo (Classical.choose_spec hx) h1)
theorem Zta {P : Program} {g : G} {h : H} {b o : Nat} {t : D} (h1 : TW P g h b o = some t) : TP P g h b o t := by
  unfold TW at h1
  split at h1
  · rename_i hx
    cases h1
    exact Classical.choose_spec hx
  · cases h1
theorem Ztb {P : Program} {top : Nat} {g : G} {h : H} {w : World} (hr : R P top g h w) {k : Nat} {d t : D} {v : Value} (hd : Zj P h k d = some t) (hv : VRel g d v) : VRel (gT (TW P g h)) t v := by
  have hbo : ∀ l b,g.blk l = some b → g.own b = some l := fun l b hb => (hr.blkown l b hb).1
  refine Zto (fun b o d t k h1 h2 => Z56 hbo (.inl ⟨k,d,h1,h2⟩)) (fun l b ty cs o d t k h1 h2 h3 h4 => Z56 hbo (.inr ⟨(hr.blkown l b h1).2 o,k,l,ty,cs,d,h1,h2,h3,h4⟩)) hd hv
theorem TW_ok {P : Program} {top : Nat} {g : G} {h : H} {w : World} (hr : R P top g h w) : OkT w (TW P g h) := by
  refine ⟨fun b o t ht => ?_,fun b o t ht => ?_⟩
  · rcases Zta ht with ⟨k,d,h1,h2⟩ | ⟨h0,k,l,ty,cs,d,h1,h2,h3,h4⟩
    · obtain ⟨v,hv,hd⟩ := hr.imm b o d h1
      exact ⟨v,hv,Ztb hr h2 hd⟩
    · obtain ⟨b',ob,hb',hob,hlies⟩ := hr.obj l _ h2 (by intro n e hh; cases hh)
      rw [h1] at hb'
      cases hb'
      cases hlies with
      | cells hvs =>
        rename_i c
        obtain ⟨v,e,r⟩ := hvs.some h3
        refine ⟨v, ?_,Ztb hr h4 r⟩
        simp only [World.cell?,hob]
        simpa using e
  · rcases Zta ht with ⟨k,d,h1,h2⟩ | ⟨h0,k,l,ty,cs,d,h1,h2,h3,h4⟩
    · exact Zm4 h2
    · exact Zm4 h4
theorem Zqa {P : Program} {top : Nat} {w w' : World} {T : Nat → Nat → Option D} (ok : OkT w T) {g' : G} {h' : H} (hext : Ext (gT T) UM w g' h' w') (hr : R P top g' h' w') :
    (∀ b o t,T b o = some t → TW P g' h' b o = some t) ∧ (∀ b o,b < w.heap.size → TW P g' h' b o = T b o) ∧ Below w.heap.size w w' := by
  have hbo : ∀ l b,g'.blk l = some b → g'.own b = some l := fun l b hb => (hr.blkown l b hb).1
  have up : ∀ b o t,T b o = some t → TW P g' h' b o = some t := fun b o t h0 => by
    obtain ⟨k,hk⟩ := ok.tree b o t h0
    exact Z56 hbo (.inl ⟨k,t,hext.le.imm b o t h0,hk P h'⟩)
  refine ⟨up,fun b o hlt => ?_,⟨hext.os,hext.tape,hext.output,hext.size,fun k hk => hext.fr k hk (fun l hl => by cases hl)⟩⟩
  have himm := hext.immfr b hlt (fun l hl => by cases hl) o
  cases hT0 : T b o with
  | some t => exact up b o t hT0
  | none =>
    cases hw : TW P g' h' b o with
    | none => rfl
    | some t =>
      exfalso
      rcases Zta hw with ⟨k,d,h1,h2⟩ | ⟨h0,k,l,ty,cs,d,h1,h2,h3,h4⟩
      · rw [himm] at h1
        have : T b o = some d := h1
        rw [hT0] at this
        cases this
      · have := hext.ownold b hlt
        rw [hbo l b h1] at this
        cases this
theorem Zno {P : Program} {glob : Nat → Option (List D)} {E : Env} {tab : Nat → ZV} (ht : Told P glob E) (hT : Z6g E tab) {w : World} {T : Nat → Nat → Option D} (ok : OkT w T) (hgl : XB (gT T) glob)
    {f : Nat} {ds : List D} {args : Array Value} {Q : D → H → Prop} (hc : WC E tab f ds UM Q) (hargs : Zk (gT T) ds args.toList) (hb : ∀ args w,(callFunc f args).run P w = .ok (.enter f args) w) :
    Calls P f args w fun e w' => ∃ d h' v T',Q d h' ∧ e = .returned v ∧ OkT w' T' ∧ (∀ b o t,T b o = some t → T' b o = some t) ∧ (∀ b o,b < w.heap.size → T' b o = T b o) ∧ Below w.heap.size w w' ∧ ∀ k t,Zj P h' k d = some t → VRel (gT T') t v := by
  obtain ⟨d,h',⟨M,hM⟩,hq⟩ := hc
  have hrun := hM M (Nat.le_refl _)
  have hrun' := (Zee hT M f ds UM (by rw [hrun]; trivial)).trans hrun
  have hs := Zks ht M f ds UM false d h' hrun' (h'.next + 1) (gT T) w args (Nat.le_succ _) (ok.r (by omega)) hgl hargs
  rcases hs with ⟨_,hc⟩ | ⟨_,v,w',he,_⟩
  · refine hc.mono ?_
    rintro e w' ⟨v,rfl,g',hext,hr,hv⟩
    obtain ⟨h1,h2,h3⟩ := Zqa ok hext hr
    exact ⟨d,h',v,TW P g' h',hq,rfl,TW_ok hr,h1,h2,h3,fun k t hk => Ztb hr hk hv⟩
  · rw [hb] at he; cases he
theorem Ze0 {P : Program} {glob : Nat → Option (List D)} {f : Nat} {lf : List D → H → O D} (hgt : ∀ i cs,glob i = some cs → ∀ d ∈ cs,Ziv d)
    (hent : ∀ args w,(callFunc f args).run P w = .ok (.enter f args) w)
    (hl : ∀ ds h p d h',lf ds h = .mk p d h' → p = false ∧ h' = h ∧ (∀ x ∈ ds,Ziv x) ∧ ∀ w T args,OkT w T → XB (gT T) glob → Zk (gT T) ds args.toList →
      Calls P f args w fun e w' => ∃ v T',e = .returned v ∧ OkT w' T' ∧ (∀ b o,b < w.heap.size → T' b o = T b o) ∧ Below w.heap.size w w' ∧ VRel (gT T') d v) : Zp P f lf glob := by
  intro ds h p d h' hrun top g w args htop hr hglob hargs
  obtain ⟨rfl,rfl,hds,hcall⟩ := hl ds h p d h' hrun
  let T : Nat → Nat → Option D := fun b o => match g.imm b o with
    | some d => open Classical in if Ziv d then some d else none
    | none => none
  have Tof : ∀ b o d,g.imm b o = some d → Ziv d → T b o = some d := fun b o d h1 h2 => by
    show (match g.imm b o with
      | some d => open Classical in if Ziv d then some d else none
      | none => none) = some d
    rw [h1]
    exact if_pos h2
  have Tsp : ∀ b o d,T b o = some d → g.imm b o = some d ∧ Ziv d := fun b o d h1 => by
    have h1 : (match g.imm b o with
      | some d => open Classical in if Ziv d then some d else none
      | none => none) = some d := h1
    split at h1
    · rename_i d' hd'
      split at h1
      · rename_i ht
        cases h1
        exact ⟨hd',ht⟩
      · cases h1
    · cases h1
  have rel : ∀ {d : D} {v : Value},Ziv d → VRel g d v → VRel (gT T) d v := by
    intro d v ⟨k,hk⟩
    exact Zp9 (P := P) (fun b o d k h1 h2 => Tof b o d h1 (Zm4 h2)) (hk P UM)
  have ok : OkT w T := ⟨fun b o d h1 => by
    obtain ⟨h2,h3⟩ := Tsp b o d h1
    obtain ⟨v,hv,hd⟩ := hr.imm b o d h2
    exact ⟨v,hv,rel h3 hd⟩,fun b o d h1 => (Tsp b o d h1).2⟩
  have hgl : XB (gT T) glob := by
    intro i cs hi
    have := hglob i cs hi
    cases this with
    | ep hc => exact .ep fun j d hj => Tof _ _ d (hc j d hj) (hgt i cs hi d (List.mem_of_getElem? hj))
  have hds' : Zk (gT T) ds args.toList := ⟨hargs.1,fun i d v h1 h2 => rel (hds d (List.mem_of_getElem? h1)) (hargs.2 i d v h1 h2)⟩
  refine .inl ⟨hent args w,(hcall w T args ok hgl hds').mono ?_⟩
  rintro e w' ⟨v,T',rfl,ok',hold,hbel,hv⟩
  refine ⟨v,rfl, ?_⟩
  let g' : G := ⟨g.blk,g.sl,g.own,fun b o => match g.imm b o with
    | some d => some d
    | none => if w.heap.size ≤ b then T' b o else none⟩
  have gimm : ∀ b o,g'.imm b o = match g.imm b o with
    | some d => some d
    | none => if w.heap.size ≤ b then T' b o else none := fun b o => rfl
  have hle : g.Le g' := ⟨fun _ _ x => x,fun _ _ _ x => x,fun b o d hd => by rw [gimm,hd]⟩
  have himold : ∀ b o,b < w.heap.size → g'.imm b o = g.imm b o := fun b o hlt => by
    rw [gimm]
    cases g.imm b o with
    | some d => rfl
    | none => exact if_neg (by omega)
  have hle' : (gT T').Le g' := ⟨fun _ _ x => (by cases x),fun _ _ _ x => (by cases x),fun b o d hd => by
    have hd : T' b o = some d := hd
    by_cases hlt : b < w.heap.size
    · rw [hold b o hlt] at hd
      rw [himold b o hlt]
      exact (Tsp b o d hd).1
    · have hn : g.imm b o = none := hr.imm_new (by omega) o
      rw [gimm,hn]
      exact (if_pos (by omega)).trans hd⟩
  obtain ⟨he,hr'⟩ := hr.below hbel
  refine ⟨g',⟨hle,he.own,he.ownold,he.os,he.tape,he.output,he.size,he.fr,he.dom,he.next,fun l hf hn => hf,fun b hlt _ o => himold b o hlt,fun id n _ _ => rfl⟩, ?_,hv.mono hle'⟩
  refine ⟨fun l o ho hn => ?_,fun id n e hi => ?_,fun b o d hd => ?_,fun l b hb => ?_,hr'.slown,hr'.name,hr'.dom,hr'.le,hr'.block,hr'.pos,hr'.slblk,hr'.ownk⟩
  · obtain ⟨b,ob,h1,h2,h3⟩ := hr'.obj l o ho hn
    exact ⟨b,ob,h1,h2,h3.mono hle⟩
  · obtain ⟨b,cap,xs,h1,h2,h3,h4⟩ := hr'.tip id n e hi
    refine ⟨b,cap,xs,h1,h2,fun o ho => ?_,h4⟩
    have hlt : b < w.heap.size := Nat.lt_of_not_le fun hle => by
      have := hr.block b hle
      rw [hr.slown _ _ _ _ h1] at this
      cases this
    rw [himold b o hlt]
    exact h3 o ho
  · have hd : g'.imm b o = some d := hd
    rw [gimm] at hd
    cases hi : g.imm b o with
    | some d' =>
      rw [hi] at hd
      cases hd
      obtain ⟨v,hv,hd'⟩ := hr'.imm b o _ hi
      exact ⟨v,hv,hd'.mono hle⟩
    | none =>
      rw [hi] at hd
      have hd : (if w.heap.size ≤ b then T' b o else none) = some d := hd
      split at hd
      · obtain ⟨v,hv,hd'⟩ := ok'.cell b o d hd
        exact ⟨v,hv,hd'.mono hle'⟩
      · cases hd
  · have hlt : b < w.heap.size := Nat.lt_of_not_le fun hle => by
      have := hr.block b hle
      rw [(hr.blkown _ _ hb).1] at this
      cases this
    exact ⟨(hr'.blkown l b hb).1,fun o => by rw [himold b o hlt]; exact (hr'.blkown l b hb).2 o⟩
def Zjq (o : O D) (P : Program) (k : Nat) (t : D) : Bool :=
  match o with
  | .ok d h' => match Zj P h' k d with
    | some u => D.same u t
    | none => false
  | _ => false
theorem Z05 {o : O D} {P : Program} {k : Nat} {t : D} (h : Zjq o P k t = true) : ∃ d h',o = .ok d h' ∧ Zj P h' k d = some t := by
  unfold Zjq at h
  split at h
  · rename_i d h'
    split at h
    · rename_i u hu
      exact ⟨d,h',rfl,by rw [hu,Zga h]⟩
    · cases h
  · cases h
def Zy (ds0 : List D) (t : D) : List D → H → O D := fun ds h => bif ZR ds ds0 then .ok t h else .fail "another call"
theorem Zu5 (ds0 : List D) (t : D) : ∀ ds h,Xv h (Zy ds0 t ds h) := fun ds h => WG fun p d h' ho => by
  unfold Zy at ho
  cases hs : ZR ds ds0 with
  | false => rw [hs] at ho; cases p <;> cases ho
  | true => rw [hs] at ho; cases p <;> cases ho; rfl
def Zcc (P : Program) (k : Nat) : List D → Bool
  | [] => true
  | d :: r => (match Zj P UM k d with
    | some u => D.same u d
    | none => false) && Zcc P k r
theorem Zaf {P : Program} {k : Nat} : ∀ {ds : List D},Zcc P k ds = true → ∀ d ∈ ds,Ziv d
  | [],h,d,hd => by cases hd
  | x :: r,h,d,hd => by
    simp only [Zcc,Bool.and_eq_true] at h
    cases hd with
    | head =>
      have h1 := h.1
      split at h1
      · rename_i u hu
        exact Zm4 (by rw [hu,Zga h1])
      · cases h1
    | tail _ hd => exact Zaf h.2 d hd
theorem Zou {P : Program} {glob : Nat → Option (List D)} {E : Env} {tab : Nat → ZV} (ht : Told P glob E) (hT : Z6g E tab) (hgt : ∀ i cs,glob i = some cs → ∀ d ∈ cs,Ziv d) {f n k : Nat} {ds0 : List D} {t : D}
    (hent : ∀ args w,(callFunc f args).run P w = .ok (.enter f args) w) (hds : Zcc P k ds0 = true) (hrun : Zjq (ZI E tab n f ds0 UM) P k t = true) : Zp P f (Zy ds0 t) glob := by
  obtain ⟨d,h',hr,hd⟩ := Z05 hrun
  have hr' := (Zee hT n f ds0 UM (by rw [hr]; trivial)).trans hr
  refine Ze0 hgt hent fun ds h p d1 h1 h2 => ?_
  unfold Zy at h2
  cases hs : ZR ds ds0 with
  | false => rw [hs] at h2; cases p <;> cases h2
  | true =>
    rw [hs] at h2
    have e := Zay hs
    subst e
    cases p with
    | true => cases h2
    | false =>
      cases h2
      refine ⟨rfl,rfl,Zaf hds,fun w T args ok hgl hargs => ?_⟩
      have hs := Zks ht n f ds UM false d h' hr' (h'.next + 1) (gT T) w args (Nat.le_succ _) (ok.r (by omega)) hgl hargs
      rcases hs with ⟨_,hc⟩ | ⟨_,v,w',he,_⟩
      · refine hc.mono ?_
        rintro e w' ⟨v,rfl,g',hext,hr,hv⟩
        obtain ⟨h1,h2,h3⟩ := Zqa ok hext hr
        exact ⟨v,TW P g' h',rfl,TW_ok hr,h2,h3,Ztb hr hd hv⟩
      · rw [hent] at he; cases he
def Zzu (P : Program) (glob : Nat → Option (List D)) (k : Nat) (q : ZV) : Prop := ∀ lib : Nat → Option (List D → H → O D),lib k = none → Zx8 (Zfw P glob lib) k q
theorem Zxg {P : Program} {glob : Nat → Option (List D)} {k m : Nat} {q : ZV} (hq : (Zo5 P glob k).map (Zxp m) = some q) : Zzu P glob k q := fun lib hl => Z02 hl hq
theorem Zxe {P : Program} {glob : Nat → Option (List D)} {k : Nat} {q : ZV} (hq : (Zo5 P glob k).map Ze1 = some q) : Zzu P glob k q := fun lib hl => Z0z hl hq
theorem Zxf (P : Program) (glob : Nat → Option (List D)) (k : Nat) : Zzu P glob k Z3l := fun lib _ => Z00 _ k
def TabA (P : Program) (glob : Nat → Option (List D)) (T : Nat → ZV) : Prop := ∀ f,Zzu P glob f (T f)
def Zqd (lib : Nat → Option (List D → H → O D)) (T : Nat → ZV) : Nat → ZV := fun f => Option.rec (motive := fun _ => ZV) (T f) YK (lib f)
theorem Zfk {P : Program} {glob : Nat → Option (List D)} {T : Nat → ZV} (hT : TabA P glob T) (lib : Nat → Option (List D → H → O D)) : Z6g (Zfw P glob lib) (Zqd lib T) := fun f => by
  show Zx8 _ f (Option.rec (motive := fun _ => ZV) (T f) YK (lib f))
  cases hl : lib f with
  | none => exact hT f lib hl
  | some g => exact Z4p hl
end
end Go.Abs
namespace Go.Abs
noncomputable section
namespace Run
open Go.RowKit
def Zg2 : Value → Option D
  | .int k n => some (.int k n)
  | .string s => some (.str (ZE s))
  | .bool b => some (.v (.bool b))
  | .slice none 0 0 => some (.v (.slice none 0 0))
  | _ => none
theorem Zz5 {g : G} {x : Value} {d : D} (h : Zg2 x = some d) : VRel g d x := by
  unfold Zg2 at h
  split at h <;> cases h
  · exact .int _ _
  · exact .str _
  · exact .v _
  · exact .v _
def cell1 (w : World) (b o : Nat) : Option D :=
  match w.cell? ⟨b,o,none⟩ with
  | some x => Zg2 x
  | none => none
def Z7j (w : World) (b : Nat) : Nat → Nat → Option (List D)
  | _,0 => some []
  | o,n + 1 => match cell1 w b o,Z7j w b (o + 1) n with
    | some d,some r => some (d :: r)
    | _,_ => none
theorem Zue {w : World} {b : Nat} : ∀ {n o : Nat} {cs : List D},Z7j w b o n = some cs → ∀ i d,cs[i]? = some d → cell1 w b (o + i) = some d
  | 0,o,cs,h,i,d,hi => by cases h; simp at hi
  | n + 1,o,cs,h,i,d,hi => by
    unfold Z7j at h
    split at h
    · rename_i d0 r h1 h2
      cases h
      cases i with
      | zero => cases hi; exact h1
      | succ i =>
        have := Zue h2 i d hi
        rw [Nat.add_assoc,Nat.add_comm 1] at this
        exact this
    · cases h
def sl1 (w : World) : Value → Option D
  | .slice (some a) n cap => bif Nat.ble n cap && (Nat.beq n 0 || a.spot.isNone) then (match Z7j w a.block a.off n with
    | some cs => some (.sl 0 n cs)
    | none => none) else none
  | _ => none
def Zkr (w : World) (b o : Nat) : Option D :=
  match w.cell? ⟨b,o,none⟩ with
  | some x => match Zg2 x with
    | some d => some d
    | none => sl1 w x
  | none => none
theorem Zrm {w : World} {b o : Nat} {d : D} (h : cell1 w b o = some d) : Zkr w b o = some d := by
  unfold cell1 at h
  unfold Zkr
  split at h
  · rename_i x hx
    simp only [h]
  · cases h
def gW (w : World) (ov : Nat → Nat → Option D) : G := ⟨fun _ => none,fun _ _ => none,fun _ => none,fun b o => match ov b o with
  | some d => some d
  | none => Zkr w b o⟩
structure OvOk (w : World) (ov : Nat → Nat → Option D) : Prop where
  cell : ∀ b o d,ov b o = some d → ∃ v,w.cell? ⟨b,o,none⟩ = some v ∧ VRel (gW w ov) d v
  non1 : ∀ b o d,ov b o = some d → cell1 w b o = none
theorem Zyu (w : World) : OvOk w (fun _ _ => none) := ⟨fun b o d h => (by cases h),fun b o d h => (by cases h)⟩
section
variable {w : World} {ov : Nat → Nat → Option D}
theorem Zza (ok : OvOk w ov) {b o : Nat} {d : D} (h : cell1 w b o = some d) : (gW w ov).imm b o = some d := by
  show (match ov b o with
    | some d => some d
    | none => Zkr w b o) = some d
  cases ho : ov b o with
  | some d' => rw [ok.non1 b o d' ho] at h; cases h
  | none => exact Zrm h
theorem imm_of {b o : Nat} {d : D} (ho : ov b o = none) (h : Zkr w b o = some d) : (gW w ov).imm b o = some d := by
  show (match ov b o with
    | some d => some d
    | none => Zkr w b o) = some d
  rw [ho]; exact h
theorem Z6w (ok : OvOk w ov) {x : Value} {d : D} (h : sl1 w x = some d) : VRel (gW w ov) d x := by
  unfold sl1 at h
  split at h
  · rename_i a n cap
    cases hq : Nat.ble n cap && (Nat.beq n 0 || a.spot.isNone) with
    | false => rw [hq] at h; cases h
    | true =>
      rw [hq] at h
      simp only [cond_true] at h
      simp only [Bool.and_eq_true,Bool.or_eq_true] at hq
      split at h
      · rename_i cs hcs
        cases h
        refine .sl (Nat.le_of_ble_eq_true hq.1) (fun i d hi => ⟨?_,Zza ok (Zue hcs i d hi)⟩) (fun e => absurd rfl e)
        rcases hq.2 with h0 | h0
        · have := Nat.eq_of_beq_eq_true h0
          subst this
          cases hcs
          simp at hi
        · cases hs : a.spot with
          | none => rfl
          | some s => rw [hs] at h0; cases h0
      · cases h
  · cases h
theorem Z1q (ok : OvOk w ov) {b o : Nat} {d : D} (h : Zkr w b o = some d) : ∃ v,w.cell? ⟨b,o,none⟩ = some v ∧ VRel (gW w ov) d v := by
  unfold Zkr at h
  split at h
  · rename_i x hx
    refine ⟨x,hx, ?_⟩
    split at h
    · rename_i d' hd
      cases h
      exact Zz5 hd
    · exact Z6w ok h
  · cases h
theorem rW {P : Program} {top : Nat} (ok : OvOk w ov) (ht : 1 ≤ top) : R P top (gW w ov) UM w where
  obj := fun l o ho => by cases ho
  tip := fun id n e ho => by cases ho
  imm := fun b o d hd => by
    have hd : (match ov b o with
      | some d => some d
      | none => Zkr w b o) = some d := hd
    split at hd
    · rename_i d' hov
      cases hd
      exact ok.cell b o _ hov
    · exact Z1q ok hd
  blkown := fun l b hb => by cases hb
  slown := fun id n b cap hb => by cases hb
  name := fun l _ _ => ⟨rfl,fun _ => rfl,fun b hb => by cases hb⟩
  dom := fun l _ => rfl
  le := ht
  block := fun _ _ => rfl
  pos := ⟨Nat.zero_lt_one,rfl⟩
  slblk := fun id n p hp => by cases hp
  ownk := fun b l hb => by cases hb
theorem Ztl {P : Program} {glob : Nat → Option (List D)} {E : Env} {T : Nat → ZV} (ht : Told P glob E) (hT : Z6g E T) (hgl : XB (gW w ov) glob) (ok : OvOk w ov) {f : Nat} {ds : List D} {args : Array Value} {Q : D → H → Prop} (hc : WC E T f ds UM Q)
    (hargs : Zk (gW w ov) ds args.toList) (hb : ∀ args w,(callFunc f args).run P w = .ok (.enter f args) w) :
    Calls P f args w fun e w' => ∃ d h' v g',Q d h' ∧ e = .returned v ∧ R P (h'.next + 1) g' h' w' ∧ VRel g' d v ∧ Below w.heap.size w w' ∧ (gW w ov).Le g' := by
  obtain ⟨d,h',⟨M,hM⟩,hq⟩ := hc
  have hrun := hM M (Nat.le_refl _)
  have hrun' := (Zee hT M f ds UM (by rw [hrun]; trivial)).trans hrun
  have hs := Zks ht M f ds UM false d h' hrun' (h'.next + 1) (gW w ov) w args (Nat.le_succ _) (rW ok (by omega)) hgl hargs
  rcases hs with ⟨_,hc⟩ | ⟨_,v,w',he,_⟩
  · refine hc.mono ?_
    rintro e w' ⟨v,rfl,g',hext,hr,hv⟩
    exact ⟨d,h',v,g',hq,rfl,hr,hv,⟨hext.os,hext.tape,hext.output,hext.size,fun k hk => hext.fr k hk (fun l hl => by cases hl)⟩,hext.le⟩
  · rw [hb] at he; cases he
end
def Z2m : D → Bool
  | .int _ _ => true
  | .str _ => true
  | _ => false
theorem Z6x {d : D} {v : Value} (hs : Z2m d = true) (h : ∀ g,VRel g d v) : Zg2 v = some d := by
  have h := h ⟨fun _ => none,fun _ _ => none,fun _ => none,fun _ _ => none⟩
  cases h with
  | int k n => rfl
  | str s => rfl
  | v => cases hs
  | ptr => cases hs
  | ep => cases hs
  | sl => cases hs
  | row => cases hs
  | map => cases hs
  | agg => cases hs
  | tup => cases hs
  | func => cases hs
  | iface => cases hs
theorem glob_W {w : World} {glob : Nat → Option (List D)} (hg : Holds glob w) (hs : ∀ i cs,glob i = some cs → ∀ d ∈ cs,Z2m d = true) : XB (gW w fun _ _ => none) glob := fun i cs hc => .ep fun o d hd => by
  obtain ⟨v,h1,h2⟩ := hg i cs o d hc hd
  have h3 := Z6x (hs i cs hc d (List.mem_of_getElem? hd)) h2
  rw [Nat.zero_add]
  refine imm_of rfl (Zrm ?_)
  unfold cell1
  rw [h1]
  exact h3
def Zte (w : World) (a : Addr) (o : Nat) (vs : List Value) : Prop := ∀ j u,vs[j]? = some u → w.cell? ⟨a.block,a.off + o + j,none⟩ = some u
def Zpr (w : World) (v : Value) (size : Nat) (rows : List (List Value)) : Prop := (v = .slice none 0 0 ∧ rows = []) ∨ ∃ a cap,v = .slice (some a) rows.length cap ∧ rows.length ≤ cap ∧ (rows ≠ [] → a.spot = none) ∧ ∀ i r,rows[i]? = some r → Zte w a (i * size) r
section
variable {w : World} {ov : Nat → Nat → Option D}
def Zme (rows : List (List Value)) : List D := rows.flatMap fun r => r.map fun v => (Zg2 v).getD ZD
theorem Zxx {a : Addr} {o : Nat} {r : List Value} (h : Zte w a o r) (hs : ∀ v ∈ r,(Zg2 v).isSome = true) {j : Nat} {v : Value} (hv : r[j]? = some v) : cell1 w a.block (a.off + o + j) = some ((Zg2 v).getD ZD) := by
  unfold cell1
  rw [h j v hv]
  have := hs v (List.mem_of_getElem? hv)
  cases hq : Zg2 v with
  | none => rw [hq] at this; cases this
  | some d => exact hq
theorem Zud {size : Nat} : ∀ {rows : List (List Value)},(∀ r ∈ rows,r.length = size) → ∀ i d,(Zme rows)[i]? = some d → ∃ q j r v,rows[q]? = some r ∧ r[j]? = some v ∧ i = q * size + j ∧ d = (Zg2 v).getD ZD
  | [],h,i,d,hi => by simp [Zme] at hi
  | r :: l,h,i,d,hi => by
    have h0 := h r (List.mem_cons_self ..)
    have e : Zme (r :: l) = (r.map fun v => (Zg2 v).getD ZD) ++ Zme l := by simp [Zme]
    rw [e] at hi
    by_cases hr : i < size
    · rw [List.getElem?_append_left (by simpa [h0] using hr),List.getElem?_map] at hi
      cases hv : r[i]? with
      | none => rw [hv] at hi; cases hi
      | some v =>
        rw [hv] at hi
        cases hi
        exact ⟨0,i,r,v,rfl,hv,by omega,rfl⟩
    · rw [List.getElem?_append_right (by simp [h0]; omega),List.length_map,h0] at hi
      obtain ⟨q,j,r',v,h1,h2,h3,h4⟩ := Zud (rows := l) (fun r hr => h r (List.mem_cons_of_mem _ hr)) _ d hi
      exact ⟨q + 1,j,r',v,h1,h2,by rw [Nat.succ_mul]; omega,h4⟩
theorem rows_D (ok : OvOk w ov) {v : Value} {size : Nat} {rows : List (List Value)} (hx : Zpr w v size rows) (hsz : ∀ r ∈ rows,r.length = size) (hs : ∀ r ∈ rows,∀ v ∈ r,(Zg2 v).isSome = true) :
    ∃ d,((rows = [] ∧ d = .v (.slice none 0 0)) ∨ d = .sl 0 rows.length (Zme rows)) ∧ VRel (gW w ov) d v := by
  rcases hx with ⟨rfl,rfl⟩ | ⟨a,cap,rfl,h1,h2,h3⟩
  · exact ⟨_,.inl ⟨rfl,rfl⟩,.v _⟩
  refine ⟨_,.inr rfl,.sl h1 ?_ (fun e => absurd rfl e)⟩
  intro i d hi
  obtain ⟨q,j,r,u,g1,g2,rfl,rfl⟩ := Zud hsz i d hi
  have hne : rows ≠ [] := fun e => by subst e; simp at g1
  refine ⟨h2 hne, ?_⟩
  have := Zxx (h3 q r g1) (hs r (List.mem_of_getElem? g1)) g2
  rw [Nat.add_assoc] at this
  exact Zza ok this
end
open Go.Deep Go.ChangeShapes Go.WideShapes
section
variable {H : Type} {enc : TypeId × Value → H} {P : Program} {w : World} {base b0 : Nat} {spare : Nat → Bool} {held : Bool} {r : Reach}
theorem Znj {t e : TypeId} {v u : Value} (ht : P.underlying t = some (.slice e)) (h : Value.okWide P w r b0 t v) (hu : v.cells.toList = [u]) : v = u := by
  simp only [Value.okWide,ht] at h
  cases v
  case agg cs => exfalso; simp [Cell.okWide,Cell.ok,ht] at h
  all_goals (simp [Value.cells] at hu; exact hu)
theorem Z54 {a : Addr} {k j : Nat} {u : Value} (h : w.cell? ((a.add k).add j) = some u) : w.cell? ⟨a.block,a.off + k + j,none⟩ = some u := by
  rw [add_add] at h
  have hs := World.cell?_spot h
  obtain ⟨b,o,s⟩ := a
  unfold Addr.add at h hs
  by_cases h0 : k + j = 0
  · simp only [h0,if_true] at h hs
    cases hs
    have e1 : k = 0 := by omega
    have e2 : j = 0 := by omega
    subst e1 e2
    exact h
  · simp only [h0,if_false] at h
    rw [Nat.add_assoc]
    exact h
theorem two {l : List Value} (h : l.length = 2) : ∃ a b,l = [a,b] := by
  match l,h with
  | [a,b],_ => exact ⟨a,b,rfl⟩
def Zpw (k : IntKind) (p : Int × ByteArray) : List Value := [.int k p.1,.string p.2]
theorem Zwt {t e : TypeId} {f0 f1 : Field} {k : IntKind} (ht : P.underlying t = some (.slice e)) (he : P.underlying e = some (.struct #[f0,f1])) (ce : P.cellsOf e = 2)
    (o0 : f0.offset = 0) (o1 : f1.offset = 1) (c0 : P.cellsOf f0.type = 1) (c1 : P.cellsOf f1.type = 1) (u0 : P.underlying f0.type = some (.int k)) (u1 : P.underlying f1.type = some .string)
    {fuel : Nat} {v : Value} {x : DataW H × List MemPlace} (hf : DataW.trod enc P w base spare held fuel t [v] = some x) : ∃ ss : List (Int × ByteArray),Zpr w v 2 (ss.map (Zpw k)) ∧ (∀ p ∈ ss,(Lit.int k p.1).wf = true) ∧ ss.length ≤ maxLen := by
  rcases open_slice ht hf with ⟨hc,_⟩ | ⟨a,len,cap,m,n,D,Pl,hc,hb,hl,hm,hmm,_,hx⟩
  · cases hc; exact ⟨[],.inl ⟨rfl,rfl⟩,fun x hx => by simp at hx,Nat.zero_le _⟩
  cases hc
  have hlm : len ≤ m := by rw [hmm]; split <;> omega
  have each : ∀ i,i < len → ∃ p : Int × ByteArray,(Lit.int k p.1).wf = true ∧ Zte w a (i * 2) (Zpw k p) := by
    intro i hi
    obtain ⟨cs',h1,h2⟩ := hx i (by omega)
    rw [ce] at h1
    obtain ⟨_,hlen,hcell⟩ := World.cells?_some h1
    obtain ⟨k0,k1,rfl⟩ := two hlen
    obtain ⟨xs,n',_,_,_,hxl,hfs⟩ := DataW.trod_struct he h2
    have hxl : xs.length = 2 := hxl
    have g : ∀ j,j < 2 → ∃ z,xs[j]? = some z := fun j hj => ⟨_,List.getElem?_eq_getElem (by omega)⟩
    obtain ⟨z0,e0⟩ := g 0 (by omega)
    obtain ⟨z1,e1⟩ := g 1 (by omega)
    have t0 := hfs 0 f0 rfl
    have t1 := hfs 1 f1 rfl
    rw [o0,c0,e0] at t0
    rw [o1,c1,e1] at t1
    obtain ⟨n0,q0,_,w0⟩ := DataW.trod_int u0 t0
    obtain ⟨s1,q1,_⟩ := DataW.trod_string u1 t1
    cases q0
    cases q1
    refine ⟨(n0,s1),w0, ?_⟩
    intro j u hj
    have hj2 : j < 2 := by have := (List.getElem?_eq_some_iff.1 hj).1; simpa [Zpw] using this
    exact Z54 ((hcell j hj2).trans hj)
  have : Inhabited (Int × ByteArray) := ⟨(0,.empty)⟩
  obtain ⟨f,hf⟩ := choose_lt each
  refine ⟨(List.range len).map f,.inr ⟨a,cap,by simp,by simpa using hl, ?_, ?_⟩, ?_,by simp; omega⟩
  · intro hne
    have h0 : 0 < len := by
      cases len with
      | zero => exact absurd rfl hne
      | succ n => omega
    obtain ⟨cs',h1,h2⟩ := hx 0 (by omega)
    rw [ce] at h1
    obtain ⟨_,hlen,hcell⟩ := World.cells?_some h1
    obtain ⟨k0,k1,rfl⟩ := two hlen
    have := hcell 0 (by omega)
    rw [Nat.zero_mul] at this
    exact World.cell?_spot (a := a) this
  · intro i x hi
    have hil : i < len := by have := (List.getElem?_eq_some_iff.1 hi).1; simpa using this
    rw [List.getElem?_map,List.getElem?_map,List.getElem?_range hil] at hi
    cases hi
    exact (hf i hil).2
  · intro x hx
    obtain ⟨i,hi,rfl⟩ := List.mem_map.1 hx
    exact (hf i (by simpa using hi)).1
theorem rows2_Trod {t e : TypeId} {f0 f1 : Field} {k : IntKind} (ht : P.underlying t = some (.slice e)) (he : P.underlying e = some (.struct #[f0,f1])) (ce : P.cellsOf e = 2)
    (o0 : f0.offset = 0) (o1 : f1.offset = 1) (c0 : P.cellsOf f0.type = 1) (c1 : P.cellsOf f1.type = 1) (u0 : P.underlying f0.type = some (.int k)) (u1 : P.underlying f1.type = some .string)
    {v : Value} {d : DataW H} {p : List MemPlace} (hv : Value.okWide P w r b0 t v) (h : DataW.Trod enc P w base spare held t v d p) : ∃ ss : List (Int × ByteArray),Zpr w v 2 (ss.map (Zpw k)) ∧ (∀ p ∈ ss,(Lit.int k p.1).wf = true) ∧ ss.length ≤ maxLen := by
  obtain ⟨fuel,hf⟩ := h
  have e : v.cells.toList = [v] := by
    rcases open_slice ht hf with ⟨hc,_⟩ | ⟨a,len,cap,m,n,D,Pl,hc,_⟩
    · rw [hc,Znj ht hv hc]
    · rw [hc,Znj ht hv hc]
  rw [e] at hf
  exact Zwt ht he ce o0 o1 c0 c1 u0 u1 hf
end
end Run
end
end Go.Abs
namespace Go.Abs
noncomputable section
structure FnW where
  run : ZV
def gK (f n : Nat) (k : (Tr D → D) → FnW) : FnW := Nat.rec (motive := fun _ => Nat → ((Tr D → D) → FnW) → FnW) (fun _ k => k g0)
  (fun _ ih n k => Bool.rec (motive := fun _ => FnW) (Bool.rec (motive := fun _ => FnW) (ih (Nat.sub (Nat.div n 2) 1) fun g => k (gR g)) (ih (Nat.div n 2) fun g => k (gL g)) (Nat.beq (Nat.mod n 2) 1)) (k gV) (Nat.beq n 0)) f n k
theorem Zq9 : ∀ (f n : Nat) (k : (Tr D → D) → FnW),gK f n k = k (gF f n)
  | 0,n,k => rfl
  | f + 1,n,k => by
    show Bool.rec (motive := fun _ => FnW) (Bool.rec (motive := fun _ => FnW) (gK f (n / 2 - 1) fun g => k (gR g)) (gK f (n / 2) fun g => k (gL g)) (Nat.beq (n % 2) 1)) (k gV) (Nat.beq n 0) = _
    rw [Zq9 f,Zq9 f,gF]
    cases Nat.beq n 0 with
    | true => rfl
    | false => cases Nat.beq (n % 2) 1 <;> rfl
def pK (f n : Nat) (k : (D → Tr D → Tr D) → FnW) : FnW := Nat.rec (motive := fun _ => Nat → ((D → Tr D → Tr D) → FnW) → FnW) (fun _ k => k p0)
  (fun _ ih n k => Bool.rec (motive := fun _ => FnW) (Bool.rec (motive := fun _ => FnW) (ih (Nat.sub (Nat.div n 2) 1) fun g => k (pR g)) (ih (Nat.div n 2) fun g => k (pL g)) (Nat.beq (Nat.mod n 2) 1)) (k pV) (Nat.beq n 0)) f n k
theorem Z3w : ∀ (f n : Nat) (k : (D → Tr D → Tr D) → FnW),pK f n k = k (pF f n)
  | 0,n,k => rfl
  | f + 1,n,k => by
    show Bool.rec (motive := fun _ => FnW) (Bool.rec (motive := fun _ => FnW) (pK f (n / 2 - 1) fun g => k (pR g)) (pK f (n / 2) fun g => k (pL g)) (Nat.beq (n % 2) 1)) (k pV) (Nat.beq n 0) = _
    rw [Z3w f,Z3w f,pF]
    cases Nat.beq n 0 with
    | true => rfl
    | false => cases Nat.beq (n % 2) 1 <;> rfl
def eK (x : Opd) (k : (Tr D → D) → FnW) : FnW :=
  match x with
  | .t n => gK (n + 1) n k
  | .d d => k (kD d)
theorem Zmp (x : Opd) (k : (Tr D → D) → FnW) : eK x k = k (fe x) := by
  cases x with
  | t n => exact Zq9 (n + 1) n k
  | d d => rfl
def dK (x : Option Nat) (k : (D → Tr D → Tr D) → FnW) : FnW :=
  match x with
  | none => k p0
  | some n => pK (n + 1) n k
theorem Zri (x : Option Nat) (k : (D → Tr D → Tr D) → FnW) : dK x k = k (Zfu x) := by
  cases x with
  | none => rfl
  | some n => exact Z3w (n + 1) n k
def lK : List Opd → (List (Tr D → D) → FnW) → FnW
  | [],k => k []
  | x :: r,k => eK x fun g => lK r fun l => k (g :: l)
theorem lK_eq : ∀ (l : List Opd) (k : List (Tr D → D) → FnW),lK l k = k (l.map fe)
  | [],k => rfl
  | x :: r,k => by rw [lK,Zmp,lK_eq r]; rfl
def oK (x : Option Opd) (k : Option (Tr D → D) → FnW) : FnW :=
  match x with
  | none => k none
  | some x => eK x fun g => k (some g)
theorem oK_eq (x : Option Opd) (k : Option (Tr D → D) → FnW) : oK x k = k (Zwe x) := by
  cases x with
  | none => rfl
  | some x => exact Zmp ..
def psK : List (Nat × Nat × Opd) → (List (Nat × Nat × (Tr D → D)) → FnW) → FnW
  | [],k => k []
  | (a,b,x) :: r,k => eK x fun g => psK r fun l => k ((a,b,g) :: l)
theorem Z3t : ∀ (l : List (Nat × Nat × Opd)) (k : List (Nat × Nat × (Tr D → D)) → FnW),psK l k = k (Zo2 l)
  | [],k => rfl
  | (a,b,x) :: r,k => by rw [psK,Zmp,Z3t r]; rfl
def opK (o : COp) (k : Zcz → FnW) : FnW :=
  match o with
  | .mv x => eK x fun x => k (Zh x)
  | .mvs x => eK x fun x => k (u1 Ziz x)
  | .pick c x y => eK c fun c => eK x fun x => eK y fun y => k (Yb c x y)
  | .alloc t z => k (Zo t z)
  | .box t x => eK x fun x => k (Zai t x)
  | .build z ps => psK ps fun ps => k (YQ z ps)
  | .buildSl e n z ps => psK ps fun ps => k (Xu e n z ps)
  | .ld1 x => eK x fun x => k (Zl x)
  | .ldN n x => eK x fun x => k (YB n x)
  | .st n x y => eK x fun x => eK y fun y => k (ZF n x y)
  | .nilCheck x => eK x fun x => k (u1 Z4 x)
  | .bin op t ox oy x y => eK x fun x => eK y fun y => k (fbin op t ox oy x y)
  | .un op x => eK x fun x => k (u1 (Ze7 op) x)
  | .cint kk x => eK x fun x => k (VM kk x)
  | .s2b e x => eK x fun x => k (u1 (Zn4 e) x)
  | .b2s x => eK x fun x => k (u1 Zj8 x)
  | .iface t x => eK x fun x => k (u1 (U5 t) x)
  | .mkf fn xs ys => lK xs fun xs => lK ys fun ys => k (Zxn fn xs ys)
  | .slstr x lo hi => eK x fun x => oK lo fun lo => oK hi fun hi => k (Zcv x lo hi)
  | .slsl s x lo hi => eK x fun x => oK lo fun lo => oK hi fun hi => k (uo (Zd3 s) x lo hi)
  | .fa n x => eK x fun x => k (u1 (Zt n) x)
  | .fld ag off n x => eK x fun x => k (u1 (Zn9 ag off n) x)
  | .ixs s x i => eK x fun x => eK i fun i => k (u2 (ZZ s) x i)
  | .idxs x i => eK x fun x => eK i fun i => k (u2 Zjf x i)
  | .ext i x => eK x fun x => k (u1 (Xe i) x)
  | .call (.d (.v (.func (.func n) ⟨[]⟩ ⟨[]⟩))) args => lK args fun l => k (Zw n l)
  | .call f args => lK args fun l => k (Zs1 f l)
  | .app e n b s x => eK s fun s => eK x fun x => k (u2 (Zbo e n b) s x)
  | .lens x => eK x fun x => k (u1 Vm x)
  | .len x => eK x fun x => k (u1 Yy x)
  | o => k (Zcw o)
theorem Z31 (o : COp) (k : Zcz → FnW) : opK o k = k (Zcw o) := by
  unfold opK
  split <;> (try simp only [Zmp,lK_eq,oK_eq,Z3t]) <;> rfl
def Z30 : List CO → (FR → FnW) → FnW
  | [],k => k Z2
  | o :: r,k => opK o.op fun f => dK o.dst fun p => match o.guard with
    | none => Z30 r fun c => k (fo f p c)
    | some (t,w) => gK (t + 1) t fun g => Z30 r fun c => k (Yl g w f p c)
theorem Zyv : ∀ (l : List CO) (k : FR → FnW),Z30 l k = k (Zo3 l)
  | [],k => rfl
  | o :: r,k => by
    rw [Z30,Z31,Zri,Zo3]
    cases o.guard <;> simp only [Zq9,Zyv r]
def dopK (i : Nat) (inc : List Nat) (lt : Bool) (o : CO) (k : (FD → FD) → FnW) : FnW :=
  match o.op with
  | .ld1 x => eK x fun g => dK o.dst fun p => k (Xw i inc 1 g (Zl g) p)
  | .ldN n x => eK x fun g => dK o.dst fun p => k (Xw i inc n g (YB n g) p)
  | .b2s x => eK x fun g => dK o.dst fun p => k (Z8g i inc g (u1 Zj8 g) p)
  | op => opK op fun f => dK o.dst fun p => Bool.rec (motive := fun _ => FnW) (k (Ze f p)) (Bool.rec (motive := fun _ => FnW) (k (Zg8 i inc f p)) (k (Zju i inc f p)) (lt && Zo1 op)) (Y8 op)
theorem Z82 (i : Nat) (inc : List Nat) (lt : Bool) (o : CO) (k : (FD → FD) → FnW) : dopK i inc lt o k = k (Z44 i inc lt o) := by
  obtain ⟨dst,gd,op⟩ := o
  unfold dopK Z44
  dsimp only
  split
  · simp only [Zmp,Zri,Zcw]
  · simp only [Zmp,Zri,Zcw]
  · simp only [Zmp,Zri,Zcw]
  · rename_i h1 h2 h3
    simp only [Z31,Zri]
    cases Y8 op with
    | false => rfl
    | true => cases lt && Zo1 op <;> rfl
def Zvu : Nat → List (List Nat) → List CO → (FD → FnW) → FnW
  | _,_,[],k => k Xg
  | _,[],_ :: _,k => k fdbad
  | i,inc :: Zr,o :: r,k => dopK i inc (later i Zr) o fun y => match o.guard with
    | none => Zvu (i + 1) Zr r fun c => k (y c)
    | some (t,w) => gK (t + 1) t fun g => dK o.dst fun p => Zvu (i + 1) Zr r fun c => k (Zfv g w y p c)
theorem Zvt : ∀ (l : List CO) (i : Nat) (Zr : List (List Nat)) (k : FD → FnW),Zvu i Zr l k = k (Zg7 i Zr l)
  | [],i,Zr,k => by cases Zr <;> rfl
  | o :: r,i,[],k => rfl
  | o :: r,i,inc :: Zr,k => by
    rw [Zvu,Z82,Zg7]
    cases o.guard <;> simp only [Zq9,Zri,Zvt r]
def Ze3 : CC → (FC → FnW) → FnW
  | .skip,k => k Zx
  | .ops l,k => Z30 l fun r => k (Z1 r)
  | .draw inc l,k => Zvu 0 inc l fun r => k (Xf r)
  | .seq a b,k => Ze3 a fun a => Ze3 b fun b => k (Z0 a b)
  | .cond c a b,k => eK c fun c => Ze3 a fun a => Ze3 b fun b => k (Zg c a b)
  | .block id c,k => Ze3 c fun c => k (ZA id c)
  | .loop c,k => Ze3 c fun c => k (Xy c)
  | .exit id,k => k (Vi id)
  | .ret,k => k Zv
  | .stop,k => k Z8j
  | .back ..,k => k Z8j
theorem Z5t : ∀ (c : CC) (k : FC → FnW),Ze3 c k = k (Xh c) := by
  intro c
  induction c with
  | seq a b iha ihb => intro k; simp only [Ze3,iha,ihb,Xh]
  | cond c a b iha ihb => intro k; simp only [Ze3,Zmp,iha,ihb,Xh]
  | block id a iha => intro k; simp only [Ze3,iha,Xh]
  | loop a iha => intro k; simp only [Ze3,iha,Xh]
  | ops l => intro k; simp only [Ze3,Zyv,Xh]
  | draw inc l => intro k; simp only [Ze3,Zvt,Xh]
  | _ => intro k; rfl
def resK (l : List CRes) (k : (Tr D → H → O D) → FnW) : FnW :=
  match l with
  | [.t a] => gK (a + 1) a fun a => k (fun t h => .ok (a t) h)
  | [.t a,.t b] => gK (a + 1) a fun a => gK (b + 1) b fun b => k (fun t h => .ok (.tup [a t,b t]) h)
  | [.t a,.t b,.t c] => gK (a + 1) a fun a => gK (b + 1) b fun b => gK (c + 1) c fun c => k (fun t h => .ok (.tup [a t,b t,c t]) h)
  | l => k (Z41 l)
theorem Z7l (l : List CRes) (k : (Tr D → H → O D) → FnW) : resK l k = k (Z41 l) := by
  unfold resK
  split <;> (try simp only [Zq9]) <;> rfl
def ss12 : List (D → Tr D → Tr D) := [pV,pL pV,pR pV,pL (pL pV),pR (pL pV),pL (pR pV),pR (pR pV),pL (pL (pL pV)),pR (pL (pL pV)),pL (pR (pL pV)),pR (pR (pL pV)),pL (pL (pR pV))]
theorem Z6u : ss12 = Zty 12 0 := rfl
def fnK (c : CFn) : FnW := resK c.results fun res => Ze3 c.body fun b => ⟨Zbg ss12 res b⟩
theorem fnK_eq (c : CFn) : (fnK c).run = Zxp 12 c := by simp only [fnK,Z7l,Z5t,Zxp,Z6u]
def TWz (P : Program) (glob : Nat → Option (List D)) (sl : List Nat) (f : Nat) : FnW := Option.rec (motive := fun _ => FnW) ⟨Z3l⟩ (fun fn => Bool.rec (motive := fun _ => FnW) (fnK fn) ⟨Ze1 fn⟩ (Ya f sl)) (Zo5 P glob f)
def TZ (P : Program) (glob : Nat → Option (List D)) (sl : List Nat) (f : Nat) : ZV := (TWz P glob sl f).run
theorem TZ_ok (P : Program) (glob : Nat → Option (List D)) (sl : List Nat) : TabA P glob (TZ P glob sl) := fun f => by
  unfold TZ TWz
  cases hf : Zo5 P glob f with
  | none => exact Zxf P glob f
  | some fn => cases Ya f sl with
    | true => exact Zxe (by rw [hf]; rfl)
    | false => exact Zxg (m := 12) (by rw [hf]; exact congrArg some (fnK_eq fn).symm)
end
end Go.Abs
