/- Keywords, given by hand. -/
import Derived.Test.YtlkjicigmhhjbaaGreatDoorTlK
import Derived.Test.YtlkjicigmhhjbaaGreatDoorNdTree
import Derived.Test.YtlkjicigmhhjbaaGreatDoorNdWay
import Derived.Test.YtlkjicigmhhjbaaGreatDoorNdLibS
set_option linter.unusedVariables false
set_option linter.unusedSimpArgs false
namespace Go.Abs
noncomputable section
namespace Run
open Go.Proofs Go.RowKit
def orL (s : List Nat) : List (List Nat) → Bool
  | [] => false
  | w :: r => bif Ua s w then true else orL s r
def Zpy : List (List Nat) := [[99, 111, 110, 115, 116], [115, 116, 114, 117, 99, 116], [112, 97, 99, 107], [119, 104, 101, 114, 101], [115, 105, 122, 101, 111, 102], [99, 111, 117, 110, 116, 111, 102], [99, 114, 99, 51, 50], [97, 100, 108, 101, 114, 51, 50], [98, 121, 116, 101, 115], [122, 101, 114, 111], [115, 107, 105, 112], [119, 105, 110, 100, 111, 119], [97, 116], [114, 101, 115, 116], [116, 97, 105, 108], [110, 111, 110, 101], [115, 119, 105, 116, 99, 104], [99, 97, 115, 101], [101, 108, 115, 101], [117, 56], [117, 49, 54, 98, 101], [117, 49, 54, 108, 101], [117, 50, 52, 98, 101], [117, 50, 52, 108, 101], [117, 51, 50, 98, 101], [117, 51, 50, 108, 101], [117, 54, 52, 98, 101], [117, 54, 52, 108, 101]]
theorem Z5d {s w : List Nat} {r : List (List Nat)} : orL s (w :: r) = if s = w then true else orL s r := by
  rw [orL, Zck]
  by_cases h : s = w <;> simp [h]
theorem ite22 {s w : List Nat} {a : Nat} {b : Bool} {x : Nat × Bool × Bool} : (if w = s then (a, b, true) else x).2.2 = if s = w then true else x.2.2 := by
  by_cases h : s = w
  · subst h; rw [if_pos rfl, if_pos rfl]
  · rw [if_neg h, if_neg fun e => h e.symm]
theorem keyB_eq (s : List Nat) : orL s Zpy = Zwo s := by
  unfold Zwo Zc4 Zpy
  simp only [Z5d, ite22]
  rfl
def Ztg : List D → H → O D := fun args h => match args with
  | [.str s] => .ok (.v (.bool (orL s Zpy))) h
  | _ => .fail "keyword"
end Run
end
end Go.Abs
namespace Go.Abs
noncomputable section
section
variable {P : Program} {top : Nat} {g g' : G} {h h1 h2 : H} {w w' : World} {d : D} {v : Value}
theorem R.hext (hn : h1.next = h2.next) (hm : ∀ l, h1.mem.get l = h2.mem.get l) (r : R P top g h1 w) : R P top g h2 w where
  obj := fun l o ho => r.obj l o ((hm l).trans ho)
  tip := fun id n e ho => r.tip id n e ((hm id).trans ho)
  imm := r.imm
  blkown := r.blkown
  slown := r.slown
  name := fun l hl => r.name l (by omega)
  dom := fun l hl => (hm l).symm.trans (r.dom l (by omega))
  le := by have := r.le; omega
  block := r.block
  pos := ⟨by have := r.pos.1; omega, (hm 0).symm.trans r.pos.2⟩
  slblk := r.slblk
  ownk := r.ownk
theorem Ext.hext (hn : h1.next = h2.next) (hm : ∀ l, h1.mem.get l = h2.mem.get l) (e : Ext g h w g' h1 w') : Ext g h w g' h2 w' where
  le := e.le
  own := e.own
  ownold := e.ownold
  os := e.os
  tape := e.tape
  output := e.output
  size := e.size
  fr := e.fr
  dom := fun l hl hd => (hm l).symm.trans (e.dom l hl hd)
  next := by have := e.next; omega
  names := fun l hf hl => e.names l hf (by omega)
  immfr := e.immfr
  slfr := fun id n hi hl => e.slfr id n hi (by omega)
theorem Y0.hext (hn : h1.next = h2.next) (hm : ∀ l, h1.mem.get l = h2.mem.get l) (p : Y0 P top g h w d h1 v w') : Y0 P top g h w d h2 v w' := by
  obtain ⟨g', e, r, hv⟩ := p
  exact ⟨g', e.hext hn hm, r.hext hn hm, hv⟩
end
theorem Zyk {P : Program} {glob : Nat → Option (List D)} {E : Env} {tab : Nat → ZE} (ht : Told P glob E) (hT : Z6p E tab) {f : Nat} {F : List D → H → O D}
    (hv : ∀ ds h p d h2, F ds h = .mk p d h2 → p = false ∧ VC E tab f ds h (fun d' h1 => d' = d ∧ h1.next = h2.next ∧ ∀ l, hget h1.mem l = hget h2.mem l) Zc2) : Yc P f F glob := by
  intro ds h p d h2 hr top g w args htop hR hg hargs
  obtain ⟨rfl, o, ⟨N, hN⟩, hq⟩ := hv ds h p d h2 hr
  have hrun := hN N (Nat.le_refl _)
  cases o with
  | fail w => exact hq.elim
  | panic d' h1 => exact hq.elim
  | ok d' h1 =>
    obtain ⟨rfl, hn, hm⟩ := hq
    have hm' : ∀ l, h1.mem.get l = h2.mem.get l := fun l => by have := hm l; rwa [Xh, Xh] at this
    have hrun' := (Zca hT N f ds h (by rw [hrun]; trivial)).trans hrun
    rcases Zkz ht N f ds h false d' h1 hrun' top g w args (by omega) hR hg hargs with ⟨he, hc⟩ | ⟨hp, v, w', he, hpost⟩
    · refine .inl ⟨he, hc.mono ?_⟩
      rintro e w' ⟨v, rfl, hpost⟩
      exact ⟨v, rfl, hpost.hext hn hm'⟩
    · exact .inr ⟨rfl, v, w', he, hpost.hext hn hm'⟩
end
end Go.Abs
namespace Go.Abs
noncomputable section
namespace Run
open Go.Proofs Go.RowKit
theorem Zpu {ds : List D} {h : H} {p : Bool} {d : D} {h2 : H} (hF : Ztg ds h = .mk p d h2) : ∃ s, ds = [.str s] ∧ p = false ∧ d = .v (.bool (Zwo s)) ∧ h2 = h := by
  unfold Ztg at hF
  split at hF
  · rename_i s
    rw [keyB_eq] at hF
    cases p with
    | true => cases hF
    | false => cases hF; exact ⟨s, rfl, rfl, rfl, rfl⟩
  · cases p <;> cases hF
theorem Zyn : Yc Tryz.prog 95 Ztg glob := Zyk told0 Z7q fun ds h p d h2 hF => by
  obtain ⟨s, rfl, rfl, rfl, rfl⟩ := Zpu hF
  exact ⟨rfl, Zxk (by kernel_rfl) (by kernel_rfl) (by kernel_rfl) ⟨fun e => ⟨by rw [e], rfl, fun _ => rfl⟩, fun e => ⟨by rw [e], rfl, fun _ => rfl⟩⟩⟩
def Z0h (f : Nat) : Option (List D → H → O D) := bq (Nat.beq f 95) (some Ztg) (Zh3 f)
theorem told1 : Told Tryz.prog glob (Zcc Tryz.prog glob Z0h) := by
  refine Z7j Tryz.prog glob Z0h Zkt (fun f lf h => ?_) (fun f lf h => ?_)
  all_goals (unfold Z0h at h; rw [Z0r] at h)
  · rcases Yp h with ⟨hf, rfl⟩ | h
    · rw [Nat.eq_of_beq_eq_true hf]; exact Zyn
    · exact Zsc f lf h
  · rcases Yp h with ⟨hf, rfl⟩ | h
    · exact Zcl fun ds h p d h' ho => by obtain ⟨_, _, _, _, e⟩ := Zpu ho; exact e
    · exact Zpr f lf h
end Run
end
end Go.Abs
