/- Functions that are given by hand. -/
import Derived.Test.YtmaphdhdfbgflaaGreatDoorAbsCall
import Derived.Below
import Derived.Lib.SlTrimSet
import Derived.Lib.UnsafeStr
set_option linter.unusedVariables false
namespace Go.Abs
open Go.RowKit
section
variable {P : Program} {top : Nat} {glob : Nat → Option (List D)} {g : G} {h h' : H} {w w' : World}

/-- A world that has only more blocks. -/
theorem R.below (hr : R P top g h w) (hb : Below w.heap.size w w') : Ext g h w g h w' ∧ R P top g h w' := by
  have hg : w.grownBy w' none := ⟨hb.os, hb.tape, hb.output, hb.size, fun k hk _ => hb.block k hk⟩
  refine ⟨⟨.refl g, fun _ _ x => x, fun _ _ => rfl, hb.os, hb.tape, hb.output, hb.size, fun b hbs _ => hb.block b hbs, fun _ _ x => x, Nat.le_refl _, fun _ x _ => x, fun _ _ _ _ => rfl, fun _ _ _ _ => rfl⟩, ⟨fun l o ho hn => ?_, fun id n e hi => ?_, fun b o d hd => ?_, hr.blkown, hr.slown, hr.name, hr.dom, hr.le, fun b hbs => hr.block b (Nat.le_trans hb.size hbs), hr.pos, hr.slblk⟩⟩
  · obtain ⟨b, ob, h1, h2, h3⟩ := hr.obj l o ho hn
    exact ⟨b, ob, h1, (hb.block b (Array.getElem?_eq_some_iff.1 h2).1).trans h2, h3⟩
  · obtain ⟨b, cap, xs, h1, h2, h3, h4⟩ := hr.tip id n e hi
    exact ⟨b, cap, xs, h1, h2.kept hg (.inr (by simp [Value.ownBlock])), h3, h4⟩
  · obtain ⟨v, hv, hd'⟩ := hr.imm b o d hd
    exact ⟨v, hg.cell hv (by simp), hd'⟩

theorem VRels.none' {args : Array Value} (hv : VRels g [] args.toList) : args = #[] := by
  obtain ⟨l⟩ := args
  cases l with
  | nil => rfl
  | cons a r => have := hv.1; simp at this
theorem VRels.one' {d1 : D} {args : Array Value} (hv : VRels g [d1] args.toList) : ∃ v1, args = #[v1] ∧ VRel g d1 v1 := by
  obtain ⟨l⟩ := args
  match l, hv with
  | [], hv => have := hv.1; simp at this
  | [a], hv => exact ⟨a, rfl, hv.head⟩
  | a :: b :: r, hv => have := hv.1; simp at this
theorem VRels.two' {d1 d2 : D} {args : Array Value} (hv : VRels g [d1, d2] args.toList) : ∃ v1 v2, args = #[v1, v2] ∧ VRel g d1 v1 ∧ VRel g d2 v2 := by
  obtain ⟨l⟩ := args
  match l, hv with
  | [], hv => have := hv.1; simp at this
  | [a], hv => have := hv.1; simp at this
  | [a, b], hv => exact ⟨a, b, rfl, hv.head, hv.tail.head⟩
  | a :: b :: c :: r, hv => have := hv.1; simp at this
theorem VRel.str' {l : List Nat} {v : Value} (hv : VRel g (.str l) v) : ∃ s, v = .string s ∧ l = strD s := by
  cases hv with
  | str s => exact ⟨s, rfl, rfl⟩
theorem VRel.int' {k : IntKind} {n : Int} {v : Value} (hv : VRel g (.int k n) v) : v = .int k n := by
  cases hv with
  | int => rfl

/-- A function that leaves the memory as it is. -/
theorem libsim_below {f : Nat} {lf : List D → H → O D}
    (hl : ∀ ds h p d h', lf ds h = .mk p d h' → p = false ∧ h' = h ∧ ∀ top g w args, R P top g h w → VRels g ds args.toList →
      (callFunc f args).run P w = .ok (.enter f args) w ∧ ∃ v, VRel g d v ∧ Calls P f args w fun e w' => e = .returned v ∧ Below w.heap.size w w') : LibSim P f lf glob := by
  intro ds h p d h' hrun top g w args htop hr hglob hargs
  obtain ⟨rfl, rfl, hcall⟩ := hl ds h p d h' hrun
  obtain ⟨h1, v, hv, h2⟩ := hcall top g w args hr hargs
  refine .inl ⟨h1, h2.mono ?_⟩
  rintro e w' ⟨rfl, hb⟩
  obtain ⟨he, hr'⟩ := hr.below hb
  exact ⟨v, rfl, g, he, hr', hv⟩
theorem ogrow_same {o : O D} (ho : ∀ p d h', o = .mk p d h' → h' = h) : Ogrow h o := by
  cases o with
  | ok d h' => have := ho false d h' rfl; subst this; exact Grow.refl _
  | panic d h' => have := ho true d h' rfl; subst this; exact Grow.refl _
  | fail w => trivial

/-! strings.TrimLeft -/
def memN (n : Nat) : List Nat → Bool
  | [] => false
  | m :: r => Nat.beq n m || memN n r
def ltrim (cut : List Nat) : List Nat → List Nat
  | [] => []
  | b :: r => bif memN b cut then ltrim cut r else b :: r
def ascii : List Nat → Bool
  | [] => true
  | b :: r => Nat.blt b 128 && ascii r
def libTrim (ds : List D) (h : H) : O D :=
  match ds with
  | [.str s, .str cut] => bif ascii cut && Nat.blt cut.length 4294967281 then .ok (.str (ltrim cut s)) h else .fail "trim"
  | _ => .fail "trim"
theorem memN_eq (b : UInt8) (cs : List UInt8) : memN b.toNat (cs.map (·.toNat)) = cs.contains b := by
  induction cs with
  | nil => rfl
  | cons c r ih =>
    simp only [List.map_cons, memN, ih, List.contains_cons]
    congr 1
    by_cases e : b = c
    · subst e; simp
    · have : ¬ b.toNat = c.toNat := fun h => e (UInt8.toNat_inj.1 h)
      have h1 : Nat.beq b.toNat c.toNat = false := by
        cases hb : Nat.beq b.toNat c.toNat with
        | false => rfl
        | true => exact absurd (Nat.eq_of_beq_eq_true hb) this
      rw [h1]; simp [e]
theorem ltrim_eq (cs s : List UInt8) : ltrim (cs.map (·.toNat)) (s.map (·.toNat)) = (Lib.trimLeftS s cs).map (·.toNat) := by
  induction s with
  | nil => rfl
  | cons b r ih =>
    simp only [List.map_cons, ltrim, memN_eq, Lib.trimLeftS, List.dropWhile_cons]
    cases cs.contains b with
    | true => simp only [cond_true, ih]; rfl
    | false => simp
theorem ascii_eq {cs : List UInt8} (hc : ascii (cs.map (·.toNat)) = true) : ∀ (j : Nat) b, cs[j]? = some b → b.toNat < 128 := by
  induction cs with
  | nil => intro j b hb; simp at hb
  | cons c r ih =>
    simp only [List.map_cons, ascii, Bool.and_eq_true] at hc
    intro j b hb
    cases j with
    | zero => simp at hb; subst hb; simpa using hc.1
    | succ j => exact ih hc.2 j b (by simpa using hb)
theorem libTrim_sim {f : Nat} (hent : ∀ args w, (callFunc f args).run P w = .ok (.enter f args) w)
    (hc : ∀ (s cut : ByteArray) (w : World), cut.size < 4294967281 → (∀ (j : Nat) b, cut.data.toList[j]? = some b → b.toNat < 128) →
      Calls P f #[.string s, .string cut] w fun e w' => e = .returned (.string ⟨(Lib.trimLeftS s.data.toList cut.data.toList).toArray⟩) ∧ Below w.heap.size w w') : LibSim P f libTrim glob := by
  refine libsim_below fun ds h p d h' hrun => ?_
  unfold libTrim at hrun
  split at hrun
  · rename_i s cut
    cases hq : ascii cut && Nat.blt cut.length 4294967281 with
    | false => rw [hq] at hrun; cases p <;> cases hrun
    | true =>
      rw [hq] at hrun
      cases p with
      | true => cases hrun
      | false =>
        cases hrun
        refine ⟨rfl, rfl, fun top g w args hr hargs => ⟨hent args w, ?_⟩⟩
        obtain ⟨v1, v2, rfl, h1, h2⟩ := hargs.two'
        obtain ⟨s1, rfl, rfl⟩ := h1.str'
        obtain ⟨s2, rfl, rfl⟩ := h2.str'
        simp only [Bool.and_eq_true] at hq
        refine ⟨_, ?_, hc s1 s2 w ?_ (ascii_eq hq.1)⟩
        · have := ltrim_eq s2.data.toList s1.data.toList
          simp only [strD] at this ⊢
          rw [this]
          exact VRel.str ⟨(Lib.trimLeftS s1.data.toList s2.data.toList).toArray⟩
        · have h3 := hq.2
          simp [strD] at h3
          exact h3
  · cases p <;> cases hrun
theorem libTrim_grow (ds : List D) (h : H) : Ogrow h (libTrim ds h) := by
  refine ogrow_same fun p d h' hr => ?_
  unfold libTrim at hr
  split at hr
  · rename_i s cut
    cases hq : ascii cut && Nat.blt cut.length 4294967281 <;> rw [hq] at hr <;> cases p <;> cases hr
    rfl
  · cases p <;> cases hr
end
end Go.Abs
