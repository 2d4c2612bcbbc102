/- Towards regions in open order: the relation without the supply of names; what an operation looks at. -/
import Derived.Test.YtmaphdhdfbgflaaGreatDoorAbsRel2
import Derived.Test.YtmaphdhdfbgflaaGreatDoorAbsComp
set_option linter.unusedVariables false
namespace Go.Abs

/-- The relation, of whatever memory. -/
structure C (P : Program) (g : G) (mem : Nat → Option AObj) (w : World) : Prop where
  obj : ∀ l o, mem l = some o → (∀ n e, o ≠ .tip n e) → ∃ b ob, g.blk l = some b ∧ w.heap[b]? = some ob ∧ Lies g o ob
  tip : ∀ id n e, mem id = some (.tip n e) → ∃ b cap xs, g.sl id n = some (b, cap) ∧ w.ownsRow 0 e (P.cellsOf e) (.slice (some ⟨b, 0, none⟩) n cap) n xs ∧
    (∀ o, n * P.cellsOf e ≤ o → g.imm b o = none) ∧ (∀ k, n < k → g.sl id k = none)
  imm : ∀ b o d, g.imm b o = some d → ∃ v, w.cell? ⟨b, o, none⟩ = some v ∧ VRel g d v
  blkown : ∀ l b, g.blk l = some b → g.own b = some l ∧ ∀ o, g.imm b o = none
  slown : ∀ id n b cap, g.sl id n = some (b, cap) → g.own b = some id
  block : ∀ b, w.heap.size ≤ b → g.own b = none
  zero : mem 0 = none
  slblk : ∀ id n p, g.sl id n = some p → g.blk id = none

section
variable {P : Program} {top : Nat} {g g' : G} {h h' : H} {w w' : World} {mem : Nat → Option AObj}

theorem R.toC (hr : R P top g h w) : C P g h.mem.get w := ⟨hr.obj, hr.tip, hr.imm, hr.blkown, hr.slown, hr.block, hr.pos.2, hr.slblk⟩
theorem C.toR (hc : C P g mem w) (hsub : ∀ l o, h.mem.get l = some o → mem l = some o) (hname : ∀ l, h.next ≤ l → l < top → Fresh g l) (hdom : ∀ l, h.next ≤ l → h.mem.get l = none) (hle : h.next ≤ top) (hpos : 0 < h.next) : R P top g h w :=
  ⟨fun l o ho hn => hc.obj l o (hsub l o ho) hn, fun id n e hi => hc.tip id n e (hsub _ _ hi), hc.imm, hc.blkown, hc.slown, hname, hdom, hle, hc.block, ⟨hpos, by
    cases h0 : h.mem.get 0 with
    | none => rfl
    | some o => have := hsub 0 o h0; rw [hc.zero] at this; cases this⟩, hc.slblk⟩
theorem C.mapped (hc : C P g mem w) {l : Nat} {o : AObj} (ho : mem l = some o) : ¬ Fresh g l := by
  intro hf
  by_cases ht : ∃ n e, o = .tip n e
  · obtain ⟨n, e, rfl⟩ := ht
    obtain ⟨_, _, _, h1, _⟩ := hc.tip l n e ho
    rw [hf.2.1 n] at h1; cases h1
  · obtain ⟨b, ob, h1, _⟩ := hc.obj l o ho (fun n e he => ht ⟨n, e, he⟩)
    rw [hf.1] at h1; cases h1
theorem C.world (hc : C P g mem w) (hh : w'.heap = w.heap) : C P g mem w' := by
  have hcl : ∀ a, w'.cell? a = w.cell? a := fun a => by simp [World.cell?, hh]
  refine ⟨fun l o ho hn => ?_, fun id n e hi => ?_, fun b o d hd => ?_, hc.blkown, hc.slown, fun b hb => hc.block b (by rwa [hh] at hb), hc.zero, hc.slblk⟩
  · rw [hh]; exact hc.obj l o ho hn
  · obtain ⟨b, cap, xs, h1, h2, h3, h4⟩ := hc.tip id n e hi
    exact ⟨b, cap, xs, h1, by unfold World.ownsRow at h2 ⊢; rw [hh]; exact h2, h3, h4⟩
  · rw [hcl]; exact hc.imm b o d hd

/-- The memory behind an operation that ran in a part of it. -/
def mergeM (mem : Nat → Option AObj) (h h' : H) (l : Nat) : Option AObj :=
  match h'.mem.get l with
  | some o => some o
  | none => match h.mem.get l with
    | some _ => none
    | none => mem l
theorem C.merge (hc : C P g mem w) (hr : R P top g h w) (hE : Ext g h w g' h' w') (hr' : R P top g' h' w') : C P g' (mergeM mem h h') w' := by
  have key : ∀ l o, mergeM mem h h' l = some o → h'.mem.get l = some o ∨ (h'.mem.get l = none ∧ h.mem.get l = none ∧ mem l = some o) := by
    intro l o hl
    unfold mergeM at hl
    split at hl
    · rename_i o' ho; cases hl; exact .inl ho
    · rename_i h1
      split at hl
      · cases hl
      · rename_i h2; exact .inr ⟨h1, h2, hl⟩
  refine ⟨fun l o ho hn => ?_, fun id n e hi => ?_, hr'.imm, hr'.blkown, hr'.slown, hr'.block, ?_, hr'.slblk⟩
  · rcases key l o ho with h1 | ⟨h1, h2, h3⟩
    · exact hr'.obj l o h1 hn
    · obtain ⟨b, ob, k1, k2, k3⟩ := hc.obj l o h3 hn
      refine ⟨b, ob, hE.le.blk _ _ k1, ?_, k3.mono hE.le⟩
      rw [hE.fr b (Array.getElem?_eq_some_iff.1 k2).1 (fun l' hl' => ?_)]
      · exact k2
      · rw [(hc.blkown l b k1).1] at hl'; cases hl'; exact h2
  · rcases key id _ hi with h1 | ⟨h1, h2, h3⟩
    · exact hr'.tip id n e h1
    · obtain ⟨b, cap, xs, k1, k2, k3, k4⟩ := hc.tip id n e h3
      have hown := hc.slown id n b cap k1
      have hbl : b < w.heap.size := Nat.lt_of_not_le fun hq => by rw [hc.block b hq] at hown; cases hown
      have hfr : ∀ l', g.own b = some l' → h.mem.get l' = none := fun l' hl' => by rw [hown] at hl'; cases hl'; exact h2
      have hb := hE.fr b hbl hfr
      have hor : id < h.next ∨ h'.next ≤ id := by
        by_cases q1 : id < h.next
        · exact .inl q1
        · by_cases q2 : h'.next ≤ id
          · exact .inr q2
          · exact absurd (hr.name id (by omega) (by have := hr'.le; omega)) (hc.mapped h3)
      refine ⟨b, cap, xs, hE.le.sl _ _ _ k1, ?_, fun o ho => by rw [hE.immfr b hbl hfr]; exact k3 o ho, fun k hk => by rw [hE.slfr id k h2 hor]; exact k4 k hk⟩
      rcases k2.2 with ⟨q, _⟩ | ⟨g0, cap0, cur, q, q1, q2, q3⟩
      · cases q
      · cases q
        exact ⟨k2.1, .inr ⟨b, cap, cur, rfl, q1, by rw [hb]; exact q2, q3⟩⟩
  · unfold mergeM
    rw [hr'.pos.2]
    simp only [hr.pos.2, hc.zero]

theorem evals_congr {a b : AAct} : ∀ {xs : List Opd}, (∀ x ∈ xs, a.eval x = b.eval x) → a.evals xs = b.evals xs
  | [], _ => rfl
  | x :: xs, hq => by simp only [AAct.evals]; rw [hq x (by simp), evals_congr fun y hy => hq y (by simp [hy])]
theorem fillD_congr {a b : AAct} : ∀ {ps : List (Nat × Nat × Opd)} {cs : List D}, (∀ p ∈ ps, a.eval p.2.2 = b.eval p.2.2) → fillD a cs ps = fillD b cs ps
  | [], _, _ => rfl
  | (off, size, x) :: ps, cs, hq => by
    simp only [fillD]
    rw [hq (off, size, x) (by simp)]
    cases hb : Nat.beq (b.eval x).cells.length size with
    | false => rfl
    | true =>
      simp only [cond_true]
      split
      · exact fillD_congr fun p hp => hq p (by simp [hp])
      · rfl
theorem omap_congr {a b : AAct} {x : Option Opd} (hq : ∀ y ∈ oOpt x, a.eval y = b.eval y) : x.map a.eval = x.map b.eval := by
  cases x with
  | none => rfl
  | some x => simp [hq x (by simp [oOpt])]

theorem den_congr {c : COp} {E : Env} {call : Call} {a b : AAct} {h : H} (hq : ∀ x ∈ opds c, a.eval x = b.eval x) : den c E call a h = den c E call b h := by
  cases c <;> simp only [opds, List.mem_cons, List.not_mem_nil, or_false, forall_eq_or_imp, forall_eq, List.mem_append, List.mem_map] at hq <;>
    simp only [den, r_mv, r_mvs, r_pick, r_alloc, r_box, r_build, r_buildSl, r_ld1, r_ldN, r_st, r_nilCheck, r_bin, r_un, r_cint, r_s2b, r_b2s, r_conv, r_iface, r_mkf, r_mkmap, r_mksl, r_slstr, r_slsl, r_slarr, r_fa, r_fld, r_ixa, r_ixs, r_idxa, r_idxs, r_look, r_mset, r_lookV, r_msetV, r_apps, appendsD, r_tas, r_ext, r_lens, r_len, r_lenm, r_copy, r_bi, r_panic, r_dfr, r_rcv, r_call, r_app]
  case build z ps => rw [fillD_congr fun p hp => hq _ ⟨p, hp, rfl⟩]
  case buildSl e n z ps => rw [fillD_congr fun p hp => hq _ ⟨p, hp, rfl⟩]
  case mkf fn xs ys => rw [evals_congr fun x hx => hq x (.inl hx), evals_congr fun x hx => hq x (.inr hx)]
  case slstr x lo hi => rw [hq.1, omap_congr fun y hy => hq.2 y (.inl hy), omap_congr fun y hy => hq.2 y (.inr hy)]
  case slsl n x lo hi => rw [hq.1, omap_congr fun y hy => hq.2 y (.inl hy), omap_congr fun y hy => hq.2 y (.inr hy)]
  case slarr n s x lo hi => rw [hq.1, omap_congr fun y hy => hq.2 y (.inl hy), omap_congr fun y hy => hq.2 y (.inr hy)]
  case call f xs => rw [hq.1, evals_congr fun x hx => hq.2 x hx]
  case bi b ts t cs xs => rw [evals_congr fun x hx => hq x hx]
  all_goals first | rfl | (simp only [hq]) | (rw [hq.1, hq.2]) | (rw [hq.1, hq.2.1, hq.2.2])

/-- An operation that looks at no memory. -/
theorem den_indep {c : COp} {E : Env} {call : Call} {a : AAct} {h h' : H} {d : D} (hk : kindC c = .pure ∨ kindC c = .alloc) (hrun : den c E call a h = .ok d h') :
    ∃ K', den c E call a ⟨h.next, .nil⟩ = .ok d K' ∧ K'.next = h'.next ∧ (∀ l o, K'.mem.get l = some o → h.next ≤ l ∧ l < h'.next) ∧ (kindC c = .pure → h' = h) ∧ ∀ l, h'.mem.get l = match K'.mem.get l with
      | some o => some o
      | none => h.mem.get l := by
  cases c <;> simp only [kindC, reduceCtorEq, or_self, or_false, false_or] at hk
  all_goals
    simp only [den, r_mv, r_mvs, r_pick, r_alloc, r_box, r_build, r_buildSl, r_nilCheck, r_bin, r_un, r_cint, r_s2b, r_conv, r_iface, r_mkf, r_mkmap, r_mksl, r_slstr, r_slsl, r_slarr, r_fa, r_fld, r_ixa, r_ixs, r_idxa, r_idxs, r_tas, r_ext, r_lens, r_len, r_bi, ok?, H.new, Bool.cond_eq_ite] at hrun ⊢
    repeat' split at hrun
  all_goals first | (cases hrun; done) | skip
  all_goals cases hrun
  all_goals (try simp only [*, if_true, if_false, Bool.false_eq_true])
  all_goals (refine ⟨_, rfl, rfl, ?_, ?_, ?_⟩)
  all_goals first
    | (intro _; trivial)
    | (intro _; rfl)
    | (intro hp; simp [kindC] at hp; done)
    | (intro l; rfl)
    | (intro l o hl
       have hl' : Tr.nil.get l = some o := hl
       rw [Tr.get_nil] at hl'
       cases hl')
    | (intro l o hl
       rw [Tr.get_set, Tr.get_nil] at hl
       split at hl
       · rename_i e; subst e; exact ⟨Nat.le_refl _, Nat.lt_succ_self _⟩
       · cases hl)
    | (intro l
       by_cases e : l = h.next <;> simp [Tr.get_set, Tr.get_nil, e])
end
end Go.Abs
