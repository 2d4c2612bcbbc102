/- Functions that are given by hand: strings.Builder's check and its string; a function without a body. -/
import Derived.Test.YtmaphdhdfbgflaaGreatDoorAbsLib2
set_option linter.unusedVariables false
namespace Go.Abs
open Go.RowKit
section
variable {P : Program} {top : Nat} {glob : Nat → Option (List D)} {g : G} {h h' : H} {w w' : World}

/-- A function without a body, of values without names. -/
def libExt (P : Program) (f : Nat) (ds : List D) (h : H) : O D :=
  match plains ds with
  | some vs => match val? P (callFunc f vs.toArray) with
    | some (.value v) => .ok (.of v) h
    | _ => .fail "no body"
  | none => .fail "no body"
theorem libExt_sim (f : Nat) : LibSim P f (libExt P f) glob := by
  intro ds h p d h' hrun top g w args htop hr hglob hargs
  unfold libExt at hrun
  split at hrun
  · rename_i vs hvs
    split at hrun
    · rename_i v hv
      cases p with
      | true => cases hrun
      | false =>
        cases hrun
        have : args = vs.toArray := by
          have := plains_eq hvs hargs
          rw [← this]
        subst this
        exact .inr ⟨rfl, v, w, val?_run hv w, Post.same hr (.of g v)⟩
    · cases p <;> cases hrun
  · cases p <;> cases hrun
theorem libExt_grow (f : Nat) (ds : List D) (h : H) : Ogrow h (libExt P f ds h) := by
  refine ogrow_same fun p d h' hr => ?_
  unfold libExt at hr
  split at hr
  · split at hr <;> cases p <;> cases hr
    rfl
  · cases p <;> cases hr

/-- (*strings.Builder).copyCheck -/
def libCheck (T : TypeId) (ds : List D) (h : H) : O D :=
  match ds with
  | [.ptr l 0] => match h.mem.get l with
    | some (.cells t [.v (.pointer none), y]) => bif Nat.beq t T then .ok (.tup []) (h.put l (.cells t [.ptr l 0, y])) else .fail "copyCheck"
    | some (.cells t [.ptr k 0, y]) => bif Nat.beq k l then .ok (.tup []) h else .fail "copyCheck"
    | _ => .fail "copyCheck"
  | _ => .fail "copyCheck"
theorem lies_two {x y : D} {t : TypeId} {ob : Obj} (hl : Lies g (.cells t [x, y]) ob) : ∃ u v, ob = .cells #[u, v] t (0, 0) ∧ VRel g x u ∧ VRel g y v := by
  cases hl with
  | cells hv =>
    obtain ⟨u, v, rfl, h1, h2⟩ := hv.two'
    exact ⟨u, v, rfl, h1, h2⟩
theorem libCheck_sim {f : Nat} {T : TypeId} (hent : ∀ args w, (callFunc f args).run P w = .ok (.enter f args) w)
    (hfresh : ∀ (b : Nat) (w : World), w.cell? ⟨b, 0, none⟩ = some (.pointer none) → w.shape? b = some (T, 2) → w.frozen? ⟨b, 0, none⟩ = false →
      Calls P f #[.pointer (some ⟨b, 0, none⟩)] w fun e w' => e = .returned (.tuple #[]) ∧ w' = w.setCell ⟨b, 0, none⟩ (.pointer (some ⟨b, 0, none⟩)))
    (hused : ∀ (b : Nat) (w : World), w.cell? ⟨b, 0, none⟩ = some (.pointer (some ⟨b, 0, none⟩)) → Calls P f #[.pointer (some ⟨b, 0, none⟩)] w fun e w' => e = .returned (.tuple #[]) ∧ w' = w) : LibSim P f (libCheck T) glob := by
  intro ds h p d h' hrun top g w args htop hr hglob hargs
  unfold libCheck at hrun
  split at hrun
  · rename_i l
    obtain ⟨v1, rfl, h1⟩ := hargs.one'
    cases h1 with
    | ptr hbl =>
      rename_i b
      split at hrun
      · rename_i t y hm
        cases hq : Nat.beq t T with
        | false => rw [hq] at hrun; cases p <;> cases hrun
        | true =>
          rw [hq] at hrun
          cases p with
          | true => cases hrun
          | false =>
            cases hrun
            have := Nat.eq_of_beq_eq_true hq
            subst this
            obtain ⟨b', ob, hb', hob, hlies⟩ := hr.obj l _ hm (by intro n e he; cases he)
            rw [hbl] at hb'
            cases hb'
            obtain ⟨u, v, rfl, hu, hv⟩ := lies_two hlies
            cases hu
            have hlt : b < w.heap.size := (Array.getElem?_eq_some_iff.1 hob).1
            refine .inl ⟨hent _ w, (hfresh b w (by simp [World.cell?, hob]) (by simp [World.shape?, hob]) (by simp [World.frozen?, hob])).mono ?_⟩
            rintro e w' ⟨rfl, rfl⟩
            obtain ⟨he, hr'⟩ := hr.put (w' := w.setCell ⟨b, 0, none⟩ (.pointer (some ⟨b, 0, none⟩))) (o' := .cells t [.ptr l 0, y]) (ob := .cells #[.pointer (some ⟨b, 0, none⟩), v] t (0, 0)) hm (by intro n e he; cases he) hbl
              ⟨rfl, rfl, rfl, by simp [World.setCell], fun k _ hk => Below.heap_setCell _ _ _ k (fun e => hk (by rw [e]))⟩ (by simp [World.setCell])
              (by simp [World.setCell, Array.getElem?_modify, hob]) (.cells (.cons (.ptr hbl) (.cons hv (.nil g))))
            exact ⟨.tuple #[], rfl, g, he, hr', .tup' (.nil g)⟩
      · rename_i t k y hm
        cases hq : Nat.beq k l with
        | false => rw [hq] at hrun; cases p <;> cases hrun
        | true =>
          rw [hq] at hrun
          cases p with
          | true => cases hrun
          | false =>
            cases hrun
            have := Nat.eq_of_beq_eq_true hq
            subst this
            obtain ⟨b', ob, hb', hob, hlies⟩ := hr.obj k _ hm (by intro n e he; cases he)
            rw [hbl] at hb'
            cases hb'
            obtain ⟨u, v, rfl, hu, hv⟩ := lies_two hlies
            cases hu with
            | ptr hbl2 =>
              rw [hbl] at hbl2
              cases hbl2
              refine .inl ⟨hent _ w, (hused b w (by simp [World.cell?, hob])).mono ?_⟩
              rintro e w' ⟨rfl, rfl⟩
              exact ⟨.tuple #[], rfl, Post.same hr (.tup' (.nil g))⟩
      · cases p <;> cases hrun
  · cases p <;> cases hrun
theorem libCheck_grow (T : TypeId) (ds : List D) (h : H) : Ogrow h (libCheck T ds h) := by
  unfold libCheck
  split
  · split
    · rename_i hm
      cases Nat.beq _ T with
      | true => exact Grow.put hm
      | false => trivial
    · cases Nat.beq _ _ with
      | true => exact Grow.refl _
      | false => trivial
    · trivial
  · trivial

/-- (*strings.Builder).String, of some bytes -/
def libString (eb : TypeId) (ds : List D) (h : H) : O D :=
  match ds with
  | [.ptr l 0] => match readCells h (.ptr l 1) 1 with
    | some [.sl id n cs] => match h.mem.get id, bytesOf cs with
      | some (.tip m e), some bs => bif Nat.beq m n && Nat.beq e eb && Nat.beq bs.length n && !Nat.beq n 0 then .ok (.str bs) ⟨h.next, h.mem.set id none⟩ else .fail "String"
      | _, _ => .fail "String"
    | _ => .fail "String"
  | _ => .fail "String"
theorem freeze_cell (w : World) (p : Addr) (n : Nat) (a : Addr) : (w.freeze p n).cell? a = w.cell? a := by
  unfold World.freeze
  split
  · rfl
  · simp only [World.cell?, Array.getElem?_modify]
    by_cases e : p.block = a.block
    · rw [if_pos e, ← e]
      cases w.heap[p.block]? with
      | none => rfl
      | some o => cases o <;> rfl
    · rw [if_neg e]
theorem freeze_other (w : World) (p : Addr) (n : Nat) (k : Nat) (hk : k ≠ p.block) : (w.freeze p n).heap[k]? = w.heap[k]? := by
  unfold World.freeze
  split
  · rfl
  · simp only [Array.getElem?_modify]; rw [if_neg (Ne.symm hk)]
theorem freeze_size (w : World) (p : Addr) (n : Nat) : (w.freeze p n).heap.size = w.heap.size := by
  unfold World.freeze
  split
  · rfl
  · simp
theorem libString_sim {f : Nat} {eb : TypeId} (heb : P.cellsOf eb = 1) (hent : ∀ args w, (callFunc f args).run P w = .ok (.enter f args) w)
    (hc : ∀ (b gb cap : Nat) (cur : Array Value) (l : List UInt8) (w : World), l ≠ [] → w.cell? ⟨b, 1, none⟩ = some (.slice (some ⟨gb, 0, none⟩) l.length cap) → w.heap[gb]? = some (.cells cur eb (0, 0)) → l.length ≤ cap → cap ≤ maxLen → cur.size = cap * 1 →
      (∀ (j : Nat) x, l[j]? = some x → w.cell? ⟨gb, j, none⟩ = some (.int .u8 x.toNat)) →
      Calls P f #[.pointer (some ⟨b, 0, none⟩)] w fun e w' => e = .returned (.string ⟨l.toArray⟩) ∧ w' = w.drew.freeze ⟨gb, 0, none⟩ l.length) : LibSim P f (libString eb) glob := by
  intro ds h p d h' hrun top g w args htop hr hglob hargs
  unfold libString at hrun
  split at hrun
  · rename_i l
    obtain ⟨v1, rfl, h1⟩ := hargs.one'
    cases h1 with
    | ptr hbl =>
      rename_i b
      split at hrun
      · rename_i id n cs hrd
        split at hrun
        · rename_i m e bs hm hbs
          cases hq : Nat.beq m n && Nat.beq e eb && Nat.beq bs.length n && !Nat.beq n 0 with
          | false => rw [hq] at hrun; cases p <;> cases hrun
          | true =>
            rw [hq] at hrun
            cases p with
            | true => cases hrun
            | false =>
              simp only [cond_true] at hrun
              cases hrun
              simp only [Bool.and_eq_true] at hq
              obtain ⟨⟨⟨q1, q2⟩, q3⟩, q4⟩ := hq
              have := Nat.eq_of_beq_eq_true q1
              subst this
              have := Nat.eq_of_beq_eq_true q2
              subst this
              have hbl3 := Nat.eq_of_beq_eq_true q3
              have hn0 : m ≠ 0 := fun e => by subst e; simp at q4
              obtain ⟨b', o', us, hp, hus, hul, hucell⟩ := readCells_sim hr hrd (.ptr (off := 1) hbl)
              cases hp
              obtain ⟨u, hu0, hur⟩ := hus.some (i := 0) rfl
              have hc1 : w.cell? ⟨b, 1, none⟩ = some u := hucell 0 u hu0
              obtain ⟨gb, cap, xs, hsl, hown, himm, hlast⟩ := hr.tip id m e hm
              have hid : id ≠ 0 := fun e => by subst e; rw [hr.pos.2] at hm; cases hm
              cases hur with
              | sl hcap hcs hidr =>
                rename_i a cap'
                obtain ⟨hs1, hs2, hs3⟩ := hidr hid
                obtain ⟨ab, ao, asp⟩ := a
                simp only at hs1 hs2 hs3
                subst hs1 hs2
                rw [hsl] at hs3
                cases hs3
                -- the bytes
                obtain ⟨hbe, hb256⟩ := bytesOf_spec hbs
                let l8 : List UInt8 := bs.map UInt8.ofNat
                have hl8 : l8.length = m := by simp [l8, hbl3]
                have hmap : l8.map (·.toNat) = bs := by
                  simp only [l8, List.map_map]
                  have : ∀ x ∈ bs, ((fun y : UInt8 => y.toNat) ∘ UInt8.ofNat) x = x := fun x hx => by
                    have := hb256 x hx
                    simp only [Function.comp]
                    simp
                    omega
                  exact (List.map_congr_left this).trans (List.map_id _)
                have hne : l8 ≠ [] := fun e => by rw [e] at hl8; simp at hl8; omega
                obtain ⟨g', cap2, cur, hv, _, hheap, hncap, hcm, hcur, htake⟩ : ∃ g' cap2 cur, Value.slice (some ⟨gb, 0, none⟩) m cap = .slice (some ⟨g', 0, none⟩) m cap2 ∧ 0 ≤ g' ∧ w.heap[g']? = some (.cells cur e (0, 0)) ∧ m ≤ cap2 ∧ cap2 ≤ maxLen ∧ cur.size = cap2 * P.cellsOf e ∧ cur.toList.take (m * P.cellsOf e) = xs := by
                  rcases hown.2 with ⟨hv, _⟩ | hh
                  · cases hv
                  · exact hh
                cases hv
                have hcells : ∀ (j : Nat) x, l8[j]? = some x → w.cell? ⟨gb, j, none⟩ = some (.int .u8 x.toNat) := by
                  intro j x hx
                  have hcj : cs[j]? = some (.int .u8 (.ofNat x.toNat)) := by
                    rw [hbe, ← hmap, List.getElem?_map, List.getElem?_map, hx]; rfl
                  have h2 := (hcs j _ hcj).2
                  rw [Nat.zero_add] at h2
                  obtain ⟨v, hv, hvr⟩ := hr.imm _ _ _ h2
                  rw [hvr.int'] at hv
                  exact hv
                have hcall := hc b gb cap cur l8 w hne (by rw [hl8]; exact hc1) hheap (by rw [hl8]; exact hncap) hcm (by rw [hcur, heb]) hcells
                refine .inl ⟨hent _ w, hcall.mono ?_⟩
                rintro en w' ⟨rfl, rfl⟩
                have hown_id := hr.slown id m gb cap hsl
                have hcell : ∀ a, (w.drew.freeze ⟨gb, 0, none⟩ l8.length).cell? a = w.cell? a := fun a => freeze_cell w.drew _ _ a
                have hother : ∀ k, k ≠ gb → (w.drew.freeze ⟨gb, 0, none⟩ l8.length).heap[k]? = w.heap[k]? := fun k hk => freeze_other w.drew _ _ k hk
                have hsize : (w.drew.freeze ⟨gb, 0, none⟩ l8.length).heap.size = w.heap.size := freeze_size w.drew _ _
                have hg : w.grownBy (w.drew.freeze ⟨gb, 0, none⟩ l8.length) (some gb) := ⟨by unfold World.freeze; split <;> rfl, by unfold World.freeze; split <;> rfl, by unfold World.freeze; split <;> rfl, by rw [hsize]; exact Nat.le_refl _, fun k _ hk => hother k (fun e => hk (by rw [e]))⟩
                have hget : ∀ k, (h.mem.set id none).get k = if k = id then none else h.mem.get k := fun k => Tr.get_set _ _ _ _
                refine ⟨_, rfl, g, ⟨.refl g, fun _ _ x => x, fun _ _ => rfl, hg.os, hg.tape, hg.output, by rw [hsize]; exact Nat.le_refl _, fun x hx hf => hother x (fun e => ?_), fun k hk hn => ?_, Nat.le_refl _, fun _ x _ => x, fun _ _ _ _ => rfl, fun _ _ _ _ => rfl⟩,
                  ⟨fun k o ho hn => ?_, fun k n e hi => ?_, fun x y d hd => ?_, hr.blkown, hr.slown, hr.name, fun k hk => ?_, hr.le, fun x hx => hr.block x (by rwa [hsize] at hx), ⟨hr.pos.1, ?_⟩, hr.slblk⟩, ?_⟩
                · subst e
                  have := hf id hown_id
                  rw [hm] at this; cases this
                · show (h.mem.set id none).get k = none
                  rw [hget]; split
                  · rfl
                  · exact hn
                · have ho' : (if k = id then none else h.mem.get k) = some o := by rw [← hget]; exact ho
                  split at ho'
                  · cases ho'
                  · rename_i hki
                    obtain ⟨x, ox, e1, e2, e3⟩ := hr.obj k o ho' hn
                    refine ⟨x, ox, e1, (hother x fun e => ?_).trans e2, e3⟩
                    subst e
                    have := (hr.blkown k x e1).1
                    rw [hown_id] at this
                    cases this
                    exact hki rfl
                · have hi' : (if k = id then none else h.mem.get k) = some (.tip n e) := by rw [← hget]; exact hi
                  split at hi'
                  · cases hi'
                  · rename_i hki
                    obtain ⟨x, cap2, ys, e1, e2, e3, e4⟩ := hr.tip k n e hi'
                    refine ⟨x, cap2, ys, e1, e2.kept hg (.inr fun eq => ?_), e3, e4⟩
                    simp [Value.ownBlock] at eq
                    subst eq
                    have := hr.slown k n x cap2 e1
                    rw [hown_id] at this
                    cases this
                    exact hki rfl
                · obtain ⟨v, hv, hd'⟩ := hr.imm x y d hd
                  exact ⟨v, (hcell _).trans hv, hd'⟩
                · show (h.mem.set id none).get k = none
                  rw [hget]; split
                  · rfl
                  · exact hr.dom k hk
                · show (h.mem.set id none).get 0 = none
                  rw [hget]; split
                  · rfl
                  · exact hr.pos.2
                · have := VRel.str (g := g) ⟨l8.toArray⟩
                  have e : strD ⟨l8.toArray⟩ = bs := by simp only [strD]; exact hmap
                  rwa [e] at this
        · cases p <;> cases hrun
      · cases p <;> cases hrun
  · cases p <;> cases hrun
theorem libString_grow (eb : TypeId) (ds : List D) (h : H) : Ogrow h (libString eb ds h) := by
  unfold libString
  split
  · split
    · split
      · cases Nat.beq _ _ && Nat.beq _ eb && Nat.beq _ _ && !Nat.beq _ 0 with
        | false => trivial
        | true =>
          rename_i id n cs hrd _ _ m e bs hm hbs
          have hget : ∀ k, (h.mem.set id none).get k = if k = id then none else h.mem.get k := fun k => Tr.get_set _ _ _ _
          refine ⟨Nat.le_refl _, fun d k hk => ?_, fun k hk hn => ?_⟩
          · show (h.mem.set id none).get k = none
            rw [hget]; split
            · rfl
            · exact d k hk
          · show (h.mem.set id none).get k = none
            rw [hget]; split
            · rfl
            · exact hn
      · trivial
    · trivial
  · trivial
end
end Go.Abs
