/- A run of the reckoner, in every world. -/
import Derived.Test.YtbknmljjoahajaaGreatDoorAbsFast
set_option linter.unusedVariables false
namespace Go.Abs
open Go.RowKit

def gTop (glob : Nat → Option (List D)) : G := { blk := fun _ => none, sl := fun _ _ => none, own := fun _ => none, imm := fun b o => match glob b with
  | some cs => cs[o]?
  | none => none }
/-- The package-level variables hold what is said. -/
def Holds (glob : Nat → Option (List D)) (w : World) : Prop := ∀ b cs o d, glob b = some cs → cs[o]? = some d → ∃ v, w.cell? ⟨b, o, none⟩ = some v ∧ ∀ g, VRel g d v
def hTop : H := ⟨1, .nil⟩
theorem r0 {P : Program} {glob : Nat → Option (List D)} {w : World} (hg : Holds glob w) {top : Nat} (ht : 1 ≤ top) : R P top (gTop glob) hTop w where
  obj := fun l o ho => by cases ho
  tip := fun id n e ho => by cases ho
  imm := fun b o d hd => by
    simp only [gTop] at hd
    split at hd
    · rename_i cs hc
      obtain ⟨v, hv, hr⟩ := hg b cs o d hc hd
      exact ⟨v, hv, hr _⟩
    · cases hd
  blkown := fun l b hb => by cases hb
  slown := fun id n b cap hb => by cases hb
  name := fun l _ _ => ⟨rfl, fun _ => rfl, fun b hb => by cases hb⟩
  dom := fun l _ => rfl
  le := ht
  block := fun _ _ => rfl
  pos := ⟨Nat.zero_lt_one, rfl⟩
  slblk := fun id n p hp => by cases hp
theorem glob0 {glob : Nat → Option (List D)} : GlobOk (gTop glob) glob := fun i cs hc => .ep fun o d hd => by
  simp only [gTop, hc, Nat.zero_add]; exact hd

/-- A closed call comes to a value without names: in every world, and no block of the world is touched. -/
theorem top_calls {P : Program} {glob : Nat → Option (List D)} {E : Env} (ht : Told P glob E) {n f : Nat} {ds : List D} {args : Array Value} {x : Value} {h' : H} (hrun : ccall E n f ds hTop = .ok (.v x) h')
    (hargs : ∀ g, VRels g ds args.toList) {w : World} (hg : Holds glob w) (hb : ∀ args w, (callFunc f args).run P w = .ok (.enter f args) w) :
    Calls P f args w fun e w' => e = .returned x ∧ Below w.heap.size w w' := by
  have hs := call_sim ht n f ds hTop false (.v x) h' hrun (h'.next + 1) (gTop glob) w args (Nat.le_succ _) (r0 hg (by omega)) glob0 (hargs _)
  rcases hs with ⟨_, hc⟩ | ⟨_, v, w', he, _⟩
  · refine hc.mono ?_
    rintro e w' ⟨v, rfl, g', hext, hr, hv⟩
    cases hv
    exact ⟨rfl, hext.os, hext.tape, hext.output, hext.size, fun k hk => hext.fr k hk (fun l hl => by cases hl)⟩
  · rw [hb] at he; cases he
def isV (x : Value) (same : Value → Bool) : O D → Bool
  | .ok (.v y) _ => same y
  | _ => false
def isT : O D → Bool
  | .ok (.v (.bool true)) _ => true
  | _ => false
theorem isT_eq {o : O D} (h : isT o = true) : ∃ h', o = .ok (.v (.bool true)) h' := by
  unfold isT at h
  split at h
  · exact ⟨_, rfl⟩
  · cases h
/-- The same by the quick code. -/
theorem top_true {P : Program} {glob : Nat → Option (List D)} {E : Env} (ht : Told P glob E) {T : Nat → FFn} (hT : Tab E T) {n f : Nat} (hrun : isT (fcall E T n f [] hTop) = true)
    {w : World} (hg : Holds glob w) (hb : ∀ args w, (callFunc f args).run P w = .ok (.enter f args) w) :
    Calls P f #[] w fun e w' => e = .returned (.bool true) ∧ Below w.heap.size w w' := by
  obtain ⟨h', hr⟩ := isT_eq hrun
  exact top_calls ht (h' := h') ((fcall_ok hT n f [] hTop (by rw [hr]; trivial)).trans hr) (fun g => .nil g) hg hb
end Go.Abs
