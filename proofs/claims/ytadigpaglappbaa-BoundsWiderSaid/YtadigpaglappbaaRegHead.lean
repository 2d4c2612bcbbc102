/- A region whose order is open: its first operations only reckon and read what lay there: they are walked once, in the text's order; what is left comes up in whatever order. -/
import Derived.OrdersHeld
import Derived.Still
import Derived.Lib.QuietBelow
import Derived.Deep.RegionHeld3
import Derived.Test.YtadigpaglappbaaBase
set_option linter.unusedVariables false
namespace Go.Proofs.Ytadigpaglappbaa.RegHead
open Go.RowKit Go.Sort

section
variable {P : Program} {ops : Array Oper} {S : World → Prop}

def valUpon (w : World) (v : Value) : Result Next → Prop
  | .ok (.value u) w' => w' = w ∧ u = v
  | _ => False
def valAt (P : Program) (o : Oper) (a : Act) (w : World) (v : Value) : Prop := valUpon w v ((execOp a.eval o).run P w)
attribute [go_sem] valUpon valAt
theorem valAt_run {o : Oper} {a : Act} {w : World} {v : Value} (h : valAt P o a w v) : (execOp a.eval o).run P w = .ok (.value v) w := by
  unfold valAt at h
  generalize (execOp a.eval o).run P w = r at *
  cases r with
  | ok n w' =>
    cases n <;> simp only [valUpon] at h
    obtain ⟨rfl, rfl⟩ := h
    rfl
  | halt x w' => simp only [valUpon] at h

def wpIf (P : Program) (ops : Array Oper) (S : World → Prop) (Q : Act → Prop) : List Oper → Act → Prop
  | [], a => Q a
  | o :: rest, a => if Region.wanted o (yielded ops a.tmps) then ∃ v, (∀ w, S w → valAt P o a w v) ∧ wpIf P ops S Q rest (a.put o.dst v) else wpIf P ops S Q rest (a.put o.dst undef)
theorem wpIf_nil {Q : Act → Prop} {a : Act} (h : Q a) : wpIf P ops S Q [] a := h
theorem wpIf_step {Q : Act → Prop} {a : Act} {o : Oper} {rest : List Oper}
    (h : ∀ K : Act → Prop, (∀ a, wpIf P ops S Q rest a → K a) → if Region.wanted o (yielded ops a.tmps) then ∃ v, (∀ w, S w → valAt P o a w v) ∧ K (a.put o.dst v) else K (a.put o.dst undef)) : wpIf P ops S Q (o :: rest) a :=
  h _ (fun _ h => h)

/-- May the next n operations from k on be taken first, one by one? -/
def preFrom (md : Region.Mode) (ops : Array Oper) : Nat → Nat → Array Bool → Bool
  | 0, _, _ => true
  | fuel + 1, k, listed => (Region.ready md ops listed).contains k && Region.free md ops listed k && preFrom md ops fuel (k + 1) (listed.setIfInBounds k true)
def listN : Nat → Nat → Array Bool → Array Bool
  | 0, _, listed => listed
  | fuel + 1, k, listed => listN fuel (k + 1) (listed.setIfInBounds k true)

theorem wpAnyH_pre {md : Region.Mode} {Q : Exit → Act → World → Prop} {w : World} (hS : S w) (hs : Region.noSelect ops = true) (hQ : ∀ c a w d v, Q (.panic c) (Act.put a d v) w → Q (.panic c) a w) :
    ∀ (l : List Oper) (k fuel : Nat) (listed : Array Bool) (a : Act), (∀ j, j < l.length → l[j]? = ops[k + j]?) → preFrom md ops l.length k listed = true →
      wpIf P ops S (fun a' => wpAnyH P md ops Q S fuel (listN l.length k listed) a' w) l a → wpAnyH P md ops Q S (fuel + l.length) listed a w
  | [], _, _, _, _, _, _, h => h
  | o :: l, k, fuel, listed, a, hl, hB, h => by
    have h0 : ops[k]? = some o := by simpa using (hl 0 (by simp)).symm
    simp only [List.length_cons, preFrom, Bool.and_eq_true] at hB
    obtain ⟨⟨hr, hf⟩, hB'⟩ := hB
    have hy : ∃ v, YieldsIf P ops S o v a ∧ wpIf P ops S (fun a' => wpAnyH P md ops Q S fuel (listN (l.length + 1) k listed) a' w) l (a.put o.dst v) := by
      unfold wpIf at h
      split at h
      · rename_i hw
        obtain ⟨v, h1, h2⟩ := h
        exact ⟨v, .inl ⟨hw, fun w hS => valAt_run (h1 w hS)⟩, h2⟩
      · rename_i hw
        exact ⟨undef, .inr ⟨by simpa using hw, rfl⟩, h⟩
    obtain ⟨v, hy, hK⟩ := hy
    exact wpAnyH_take h0 hs hf hr (fun c a w => hQ c a w _ _) hy hS
      (wpAnyH_pre hS hs hQ l (k + 1) fuel _ _ (fun j hj => by have := hl (j + 1) (by simpa using hj); simpa [Nat.add_assoc, Nat.add_comm 1 j] using this) hB' hK)
end

/-- **THE HEAD OF A REGION**, the class of worlds: w with draws and new blocks. -/
theorem region_head {P : Program} {id : Nat} {Q : Exit → Act → World → Prop} {a : Act} {w : World} {l : List Oper} (n : Nat) (hm : P.follows .mixedOrders = true)
    (hB : (decide (n ≤ l.length) && (Region.noSelect l.toArray && preFrom .any l.toArray n 0 (Array.replicate l.length false))) = true)
    (h : wpIf P l.toArray (fun w' => ∃ p : Regrown, w' = grow (redrawn w p.d) p.os)
      (fun a' => wpAnyH P .any l.toArray (NoPanic Q) (fun w' => ∃ p : Regrown, w' = grow (redrawn w p.d) p.os) (l.length - n) (listN n 0 (Array.replicate l.length false)) a' w.drew) (l.take n) a) :
    (Code.region id l.toArray true).wp P Q a w := by
  simp only [Bool.and_eq_true, decide_eq_true_eq] at hB
  obtain ⟨hn, hs, hp⟩ := hB
  have htl : (l.take n).length = n := by rw [List.length_take]; omega
  refine wp_region_noPanic (wp_region_held (S := fun w' => ∃ p : Regrown, w' = grow (redrawn w p.d) p.os) hm ?_)
  have := wpAnyH_pre (P := P) (ops := l.toArray) (S := fun w' => ∃ p : Regrown, w' = grow (redrawn w p.d) p.os) (md := .any) (Q := NoPanic Q) (w := w.drew)
    ⟨⟨w.drawn + 1, #[]⟩, by rw [grow_empty]; rfl⟩ hs (fun c a w d v h => (h : False).elim) (l.take n) 0 (l.length - n) (Array.replicate l.length false) a
    (fun j hj => by rw [htl] at hj; simp [hj]) (by rw [htl]; exact hp) (by rw [htl]; exact h)
  rw [htl] at this
  have e : l.length - n + n = l.toArray.size := by simp; omega
  rw [e] at this
  simpa using this

/-- One operation of what is left. -/
theorem wpOp_mk {P : Program} {ops : Array Oper} {Q : Exit → Act → World → Prop} {i : Nat} {o : Oper} {K : Act → World → Prop} {a : Act} {w : World} (ho : ops[i]? = some o) (hw : Region.wanted o (yielded ops a.tmps) = true)
    (h : ∀ K' : Act → World → Prop, (∀ a w, K a w → K' a w) → o.wp P a w K' Q) : wpOp P ops Q i K a w := by
  unfold wpOp
  simp only [ho, hw, if_true]
  exact .inl (h _ fun _ _ h => h)
theorem regrown_mk {w w' : World} (h : Below w.heap.size w w') : ∃ p : Regrown, w' = grow (redrawn w p.d) p.os := regrown_of_below h
theorem cell_grow {w : World} {a : Addr} {v : Value} (h : w.cell? a = some v) : ∀ d os, (grow (redrawn w d) os).cell? a = some v := fun d os => cell_regrown h d os
end Go.Proofs.Ytadigpaglappbaa.RegHead
