/- The runs of elf, given by hand. -/
import Derived.Test.YthifolidfjpdkaaGreatDoorRgF
import Derived.Test.YthifolidfjpdkaaGreatDoorRgI
import Derived.Test.YthifolidfjpdkaaGreatDoorNdTa
import Derived.Test.YthifolidfjpdkaaGreatDoorNdTb
import Derived.Test.YthifolidfjpdkaaGreatDoorNdTd
import Derived.Test.YthifolidfjpdkaaGreatDoorNdTree
set_option linter.unusedVariables false
set_option linter.unusedSimpArgs false
namespace Go.Abs
noncomputable section
namespace Run
variable {E : Env} {T : Nat → ZV}
set_option maxHeartbeats 4000000
set_option maxRecDepth 100000
section
variable {h : H} {Q : D → H → Prop} {R : ZM}
open Go.Proofs Go.RowKit
theorem Zd9 : ∀ {l : Zl7},(∀ x ∈ l,Zp Tryz.prog x.1 (Zy x.2.1 x.2.2) glob) → Told Tryz.prog glob (Zfw Tryz.prog glob (Zmk l))
  | [],_ => told1
  | x :: r,h => Zaw (Zd9 fun y hy => h y (List.mem_cons_of_mem _ hy)) (h x (List.mem_cons_self ..)) (Zu5 _ _)
theorem Zaz {l : Zl7} (hl : ∀ x ∈ l,Zp Tryz.prog x.1 (Zy x.2.1 x.2.2) glob) {f : Nat} {ds : List D} {t : D} (hent : ∀ args w,(callFunc f args).run Tryz.prog w = .ok (.enter f args) w)
    (ht : Zcc Tryz.prog 40 ds = true) (h : rn l f ds t) : Zp Tryz.prog f (Zy ds t) glob := Zou (k := 40) (Zd9 hl) (Zfk Zrr (Zmk l)) Zfs hent ht h
theorem WA : ∀ x ∈ ([] : Zl7),Zp Tryz.prog x.1 (Zy x.2.1 x.2.2) glob := fun x hx => by cases hx
theorem Y7 {k : Nat} {ds : List D} {t : D} {l : Zl7} (h : Zp Tryz.prog k (Zy ds t) glob) (hl : ∀ x ∈ l,Zp Tryz.prog x.1 (Zy x.2.1 x.2.2) glob) : ∀ x ∈ (k,ds,t) :: l,Zp Tryz.prog x.1 (Zy x.2.1 x.2.2) glob := fun x hx => by
  rcases List.mem_cons.1 hx with rfl | hx
  · exact h
  · exact hl x hx
theorem Zyh (i : Nat) : D.same (iD i) (iD i) = true := by simp [iD,D.same]
theorem Zmm (F : D) (n : Nat) : ∀ ds h,Xv h (Zht F n ds h) := fun ds h => WG fun p d h' ho => by
  unfold Zht at ho
  split at ho
  · rename_i d0 i
    cases hb : (D.same d0 F && Nat.blt i n) with
    | false => rw [hb] at ho; cases p <;> cases ho
    | true => rw [hb] at ho; cases p <;> cases ho; rfl
  · cases p <;> cases ho
theorem Zw9 {k : Nat} {F : D} {n : Nat} (hone : ∀ i,i < n → Zp Tryz.prog k (Zy [F,iD i] (.v (.bool true))) glob) : Zp Tryz.prog k (Zht F n) glob := by
  intro ds h p d h' hr
  unfold Zht at hr
  split at hr
  · rename_i d0 i
    cases hb : (D.same d0 F && Nat.blt i n) with
    | false => rw [hb] at hr; cases p <;> cases hr
    | true =>
      rw [hb] at hr
      simp only [Bool.and_eq_true] at hb
      have e := Zga hb.1
      subst e
      refine hone i (Nat.le_of_ble_eq_true hb.2) _ h p d h' ?_
      rw [← hr]
      show Zy [d0,iD i] _ [d0,iD i] h = _
      unfold Zy
      have h2 : ZR [d0,iD i] [d0,iD i] = true := by simp only [ZR,hb.1,Zyh,Bool.and_self]
      rw [h2]
      rfl
  · cases p <;> cases hr
theorem Z8r : ((List.range ZS.es.length).all fun i => Zcc Tryz.prog 40 [Zr4 Zs5 ZS.es,iD i]) = true := by as_aux_lemma => kernel_rfl
theorem Z27 : Zp Tryz.prog 233 (Zht (Zr4 Zs5 ZS.es) ZS.es.length) glob := Zw9 fun i hi => by
  have h1 : rn [] 233 [Zr4 Zs5 ZS.es,iD i] (.v (.bool true)) := List.all_eq_true.1 Z5f i (List.mem_range.2 hi)
  exact Zaz WA (enters_of Tryz.func233 (by kernel_rfl) rfl) (List.all_eq_true.1 Z8r i (List.mem_range.2 hi)) h1
theorem s_txt : Zp Tryz.prog 6 (Zy [] (Y5)) glob := Zaz WA (enters_of Tryz.func6 (by kernel_rfl) rfl) (by as_aux_lemma => kernel_rfl) Z8p
theorem s_lex : Zp Tryz.prog 17 (Zy [Y5] (Zlx)) glob := Zaz WA (enters_of Tryz.func17 (by kernel_rfl) rfl) (by as_aux_lemma => kernel_rfl) Z8v
theorem Zm6 : Zp Tryz.prog 5 (Zy [Y5] (VW)) glob := Zaz (Y7 s_lex WA) (enters_of Tryz.func5 (by kernel_rfl) rfl) (by as_aux_lemma => kernel_rfl) Z1g
theorem Z26 : Zp Tryz.prog 126 (Zy [Z5] (Zim)) glob := Zaz (Y7 Zm6 WA) (enters_of Tryz.func126 (by kernel_rfl) rfl) (by as_aux_lemma => kernel_rfl) Z5c
theorem Z28 : Zp Tryz.prog 90 (Zy [Z5] (.v (.bool true))) glob := Zaz (Y7 Z26 WA) (enters_of Tryz.func90 (by kernel_rfl) rfl) (by as_aux_lemma => kernel_rfl) Z8u
theorem Z7f : Zp Tryz.prog 83 (Zy [Z5] (Zgw)) glob := Zaz (Y7 Z28 WA) (enters_of Tryz.func83 (by kernel_rfl) rfl) (by as_aux_lemma => kernel_rfl) Z1i
theorem Zr8 : Zp Tryz.prog 56 (Zy [Z5] (iD 1)) glob := Zaz (Y7 Z28 WA) (enters_of Tryz.func56 (by kernel_rfl) rfl) (by as_aux_lemma => kernel_rfl) Z5e
theorem Zm5 : Zp Tryz.prog 25 (Zy [Z5] (Zgw)) glob := Zaz (Y7 Z7f (Y7 Z28 (Y7 Z26 WA))) (enters_of Tryz.func25 (by kernel_rfl) rfl) (by as_aux_lemma => kernel_rfl) Z1f
theorem Z7g : Zp Tryz.prog 8 (Zy [.v (.slice none 0 0)] (.str [127,69,76,70,2,1,1,0,0,0,0,0,0,0,0,0,1,0,62,0,1,0,0,0,0,0,0,0,0,0,0,0,0,0,0,0,0,0,0,0,64,0,0,0,0,0,0,0,0,0,0,0,64,0,0,0,0,0,64,0,0,0,0,0])) glob := Zaz WA (enters_of Tryz.func8 (by kernel_rfl) rfl) (by as_aux_lemma => kernel_rfl) Z1j
theorem Zyi : Zp Tryz.prog 10 (Zy [] (.v (.bool true))) glob := Zaz (Y7 Zm6 (Y7 Zm5 (Y7 Zr8 (Y7 Z7g WA)))) (enters_of Tryz.func10 (by kernel_rfl) rfl) (by as_aux_lemma => kernel_rfl) Z1c
theorem toldL : Told Tryz.prog glob Zm0 := Zaw (Zd9 (Y7 s_txt (Y7 Zm6 (Y7 Zr8 (Y7 Zm5 (Y7 Zyi WA)))))) Z27 (Zmm _ _)
end
section
variable {h : H} {Q : D → H → Prop} {R : ZM}
open Go.Proofs Go.RowKit Go.Deep Go.ChangeShapes Go.WideShapes
theorem u8_lt (s : ByteArray) : ∀ x ∈ ZE s,x < 256 := by
  intro x hx
  unfold ZE at hx
  obtain ⟨b,_,rfl⟩ := List.mem_map.1 hx
  exact b.toNat_lt
def Zsb (ss : List (Int × ByteArray)) : List (Nat × List Nat) := ss.map fun p => (p.1.toNat,ZE p.2)
theorem rawC : ∀ {ss : List (Int × ByteArray)},(∀ p ∈ ss,(Lit.int .u32 p.1).wf = true) → Zme (ss.map (Zpw .u32)) = UV (Zsb ss)
  | [],_ => rfl
  | (n,s) :: r,h => by
    have h3 := h (n,s) (List.mem_cons_self ..)
    have ih := rawC (ss := r) fun p hp => h p (List.mem_cons_of_mem _ hp)
    simp [Lit.wf] at h3
    have h4 : 0 ≤ n := h3.1
    have e : Int.ofNat n.toNat = n := Int.toNat_of_nonneg h4
    show .int .u32 n :: .str (ZE s) :: Zme (r.map (Zpw .u32)) = .int .u32 (Int.ofNat n.toNat) :: .str (ZE s) :: UV (Zsb r)
    rw [ih,e]
theorem Zxj : ∀ i cs,glob i = some cs → ∀ d ∈ cs,Z2m d = true := by
  intro i cs hi
  unfold glob at hi
  rcases Y6 hi with ⟨_,rfl⟩ | hi
  · exact fun d hd => List.all_eq_true.1 (by kernel_rfl) d hd
  rcases Y6 hi with ⟨_,rfl⟩ | hi
  · exact fun d hd => List.all_eq_true.1 (by kernel_rfl) d hd
  cases hi
theorem Zwr {w : World} {ss : List (Int × ByteArray)} {v : Value} (hl : Zpr w v 2 (ss.map (Zpw .u32))) (hw : ∀ p ∈ ss,(Lit.int .u32 p.1).wf = true) : ∃ d,((Zsb ss = [] ∧ d = .v (.slice none 0 0)) ∨ d = .sl 0 (Zsb ss).length (UV (Zsb ss))) ∧ (∀ s ∈ Zsb ss,s.1 < 4294967296) ∧ (∀ s ∈ Zsb ss,∀ b ∈ s.2,b < 256) ∧ VRel (gW w fun _ _ => none) d v := by
  obtain ⟨ld,h1,h2⟩ := rows_D (Zyu w) hl (fun r hr => by obtain ⟨v,_,rfl⟩ := List.mem_map.1 hr; rfl) (fun r hr u hu => by
    obtain ⟨v,_,rfl⟩ := List.mem_map.1 hr
    simp only [Zpw,List.mem_cons,List.not_mem_nil,or_false] at hu
    rcases hu with rfl | rfl <;> rfl)
  refine ⟨ld, ?_, ?_, ?_,h2⟩
  · rw [rawC hw] at h1
    rcases h1 with ⟨h1,rfl⟩ | rfl
    · have : ss = [] := by simpa using h1
      subst this
      exact .inl ⟨rfl,rfl⟩
    · exact .inr (by rw [show (Zsb ss).length = (ss.map (Zpw .u32)).length by simp [Zsb]])
  · intro p hp
    obtain ⟨q,hq,rfl⟩ := List.mem_map.1 hp
    have h3 := hw q hq
    simp [Lit.wf] at h3
    have h4 : q.1 ≤ 4294967295 := h3.2
    show q.1.toNat < _
    omega
  · intro p hp b hb
    obtain ⟨q,_,rfl⟩ := List.mem_map.1 hp
    exact u8_lt q.2 b hb
end
end Run
end
end Go.Abs
