/- Small words on worlds: what a call that only makes new blocks leaves. -/
import Derived.Below
import Derived.Test.YtadigpaglappbaaBase
import Derived.Lib.Hide
import Derived.WalkSmall
import Derived.StillTailTactics
set_option linter.unusedVariables false
namespace Go.Proofs.Ytadigpaglappbaa.Mem
open Go.RowKit

/-- Nothing that was there has turned. -/
abbrev Bel (w w' : World) : Prop := Below w.heap.size w w'
theorem Bel.refl (w : World) : Bel w w := Below.refl _ _
theorem Bel.new {a w : World} (h : Bel a w) (o : Obj) : Bel a (w.alloc o) := h.alloc h.size o
theorem Bel.drewN {a w : World} (h : Bel a w) (n : Nat) : Bel a (w.drewN n) := below_drewN h n
theorem Bel.drew {a w : World} (h : Bel a w) : Bel a w.drew := Below.drew h
theorem Bel.then {a b c : World} (h : Bel a b) (k : Bel b c) : Bel a c := h.trans (k.mono h.size)
theorem Bel.store {a w : World} (h : Bel a w) {p : Addr} (hp : a.heap.size ≤ p.block) (u : Value) : Bel a (w.setCell p u) := h.setCell hp u

/-- What lay there reads as it did, in the walk's own form. -/
theorem bcell {W w1 : World} (hb : Bel W w1) : (∀ b o, b < W.heap.size → w1.cell? ⟨b, o, none⟩ = W.cell? ⟨b, o, none⟩) ∧ (∀ b o, b < W.heap.size → w1.frozen? ⟨b, o, none⟩ = W.frozen? ⟨b, o, none⟩) :=
  ⟨fun b o h => Below.cell hb (p := ⟨b, o, none⟩) h, fun b o h => Below.frozen hb (p := ⟨b, o, none⟩) h⟩

/-- .. and behind one new block more. -/
theorem acell {W w1 : World} (hb : Bel W w1) : (∀ x b o, b < W.heap.size → (w1.alloc x).cell? ⟨b, o, none⟩ = W.cell? ⟨b, o, none⟩) ∧ (∀ x b o, b < W.heap.size → (w1.alloc x).frozen? ⟨b, o, none⟩ = W.frozen? ⟨b, o, none⟩) :=
  ⟨fun x b o h => Below.cell (Bel.new hb x) (p := ⟨b, o, none⟩) h, fun x b o h => Below.frozen (Bel.new hb x) (p := ⟨b, o, none⟩) h⟩

/-- A region whose order is open, all of which but a tail in one order reads, or calls what leaves the world: walked in the text's order. -/
theorem still_tail {P : Program} {id : Nat} {Q : Exit → Act → World → Prop} {a : Act} {w : World} {l : List Oper} (n : Nat) (hm : P.follows .mixedOrders = true) (hB : Region.lexTailB .any l.toArray n = true)
    (h : wpStill P l.toArray w.drew (fun a' => wpList P l.toArray Q (l.drop n) a' w.drew) (l.take n) a) : (Code.region id l.toArray true).wp P Q a w :=
  wp_region_still_tail n hm hB h
end Go.Proofs.Ytadigpaglappbaa.Mem
