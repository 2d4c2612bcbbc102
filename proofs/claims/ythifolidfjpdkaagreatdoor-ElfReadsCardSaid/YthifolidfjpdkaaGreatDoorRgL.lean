/- The runs of elf, given by hand. -/
import Derived.Test.YthifolidfjpdkaaGreatDoorRgK
import Derived.Test.YthifolidfjpdkaaGreatDoorRgI
import Derived.Test.YthifolidfjpdkaaGreatDoorNdTa
import Derived.Test.YthifolidfjpdkaaGreatDoorNdTb
import Derived.Test.YthifolidfjpdkaaGreatDoorNdTc
import Derived.Test.YthifolidfjpdkaaGreatDoorNdTd
import Derived.Test.YthifolidfjpdkaaGreatDoorNdTree
set_option linter.unusedVariables false
set_option linter.unusedSimpArgs false
namespace Go.Abs
noncomputable section
namespace Run
variable {E : Env} {T : Nat → Yd}
set_option maxHeartbeats 4000000
set_option maxRecDepth 100000
section
variable {h : H} {Q : D → H → Prop} {R : Y1}
open Go.Proofs Go.RowKit
theorem Zhx : ∀ {l : Zqm}, (∀ x ∈ l, ZS Tryz.prog x.1 (Y2 x.2.1 x.2.2) glob) → Told Tryz.prog glob (Zhh Tryz.prog glob (Zon l))
  | [], _ => told1
  | x :: r, h => Zd7 (Zhx fun y hy => h y (List.mem_cons_of_mem _ hy)) (h x (List.mem_cons_self ..)) (Zr7 _ _)
theorem Zcm {l : Zqm} (hl : ∀ x ∈ l, ZS Tryz.prog x.1 (Y2 x.2.1 x.2.2) glob) {f : Nat} {ds : List D} {t : D} (hent : ∀ args w, (callFunc f args).run Tryz.prog w = .ok (.enter f args) w)
    (ht : Zg5 Tryz.prog 40 ds = true) (h : rn l f ds t) : ZS Tryz.prog f (Y2 ds t) glob := Zt8 (k := 40) (Zhx hl) (Zln Z1q (Zon l)) Zot hent ht h
theorem VZ : ∀ x ∈ ([] : Zqm), ZS Tryz.prog x.1 (Y2 x.2.1 x.2.2) glob := fun x hx => by cases hx
theorem XV {k : Nat} {ds : List D} {t : D} {l : Zqm} (h : ZS Tryz.prog k (Y2 ds t) glob) (hl : ∀ x ∈ l, ZS Tryz.prog x.1 (Y2 x.2.1 x.2.2) glob) : ∀ x ∈ (k, ds, t) :: l, ZS Tryz.prog x.1 (Y2 x.2.1 x.2.2) glob := fun x hx => by
  rcases List.mem_cons.1 hx with rfl | hx
  · exact h
  · exact hl x hx
theorem Z2q (i : Nat) : D.same (iD i) (iD i) = true := by simp [iD, D.same]
theorem Zr9 (F : D) (n : Nat) : ∀ ds h, Xc h (Zhy F n ds h) := fun ds h => WF fun p d h' ho => by
  unfold Zhy at ho
  split at ho
  · rename_i d0 i
    cases hb : (D.same d0 F && Nat.blt i n) with
    | false => rw [hb] at ho; cases p <;> cases ho
    | true => rw [hb] at ho; cases p <;> cases ho; rfl
  · cases p <;> cases ho
theorem Zt9 {k : Nat} {F : D} {n : Nat} (hone : ∀ i, i < n → ZS Tryz.prog k (Y2 [F, iD i] (.v (.bool true))) glob) : ZS Tryz.prog k (Zhy F n) glob := by
  intro ds h p d h' hr
  unfold Zhy at hr
  split at hr
  · rename_i d0 i
    cases hb : (D.same d0 F && Nat.blt i n) with
    | false => rw [hb] at hr; cases p <;> cases hr
    | true =>
      rw [hb] at hr
      simp only [Bool.and_eq_true] at hb
      have e := Zh8 hb.1
      subst e
      refine hone i (Nat.le_of_ble_eq_true hb.2) _ h p d h' ?_
      rw [← hr]
      show Y2 [d0, iD i] _ [d0, iD i] h = _
      unfold Y2
      have h2 : Y6 [d0, iD i] [d0, iD i] = true := by simp only [Y6, hb.1, Z2q, Bool.and_self]
      rw [h2]
      rfl
  · cases p <;> cases hr
theorem elf_oks : ((List.range Y4.es.length).all fun i => Zg5 Tryz.prog 40 [Zqr Zsu Y4.es, iD i]) = true := by as_aux_lemma => kernel_rfl
theorem s_mays : ZS Tryz.prog 233 (Zhy (Zqr Zsu Y4.es) Y4.es.length) glob := Zt9 fun i hi => by
  have h1 : rn [] 233 [Zqr Zsu Y4.es, iD i] (.v (.bool true)) := List.all_eq_true.1 Z06 i (List.mem_range.2 hi)
  exact Zcm VZ (enters_of Tryz.func233 (by kernel_rfl) rfl) (List.all_eq_true.1 elf_oks i (List.mem_range.2 hi)) h1
theorem s_txt : ZS Tryz.prog 6 (Y2 [] (Yk)) glob := Zcm VZ (enters_of Tryz.func6 (by kernel_rfl) rfl) (by as_aux_lemma => kernel_rfl) elf_txt
theorem s_lex : ZS Tryz.prog 17 (Y2 [Yk] (Zj1)) glob := Zcm VZ (enters_of Tryz.func17 (by kernel_rfl) rfl) (by as_aux_lemma => kernel_rfl) elf_lex
theorem Zpk : ZS Tryz.prog 5 (Y2 [Yk] (U2)) glob := Zcm (XV s_lex VZ) (enters_of Tryz.func5 (by kernel_rfl) rfl) (by as_aux_lemma => kernel_rfl) Zxu
theorem Zzb : ZS Tryz.prog 126 (Y2 [Y3] (Zg2)) glob := Zcm (XV Zpk VZ) (enters_of Tryz.func126 (by kernel_rfl) rfl) (by as_aux_lemma => kernel_rfl) Z03
theorem Zzd : ZS Tryz.prog 90 (Y2 [Y3] (.v (.bool true))) glob := Zcm (XV Zzb VZ) (enters_of Tryz.func90 (by kernel_rfl) rfl) (by as_aux_lemma => kernel_rfl) elf_may
theorem Z2s : ZS Tryz.prog 83 (Y2 [Y3] (Zh1)) glob := Zcm (XV Zzd VZ) (enters_of Tryz.func83 (by kernel_rfl) rfl) (by as_aux_lemma => kernel_rfl) Zxv
theorem Zzc : ZS Tryz.prog 56 (Y2 [Y3] (iD 1)) glob := Zcm (XV Zzd VZ) (enters_of Tryz.func56 (by kernel_rfl) rfl) (by as_aux_lemma => kernel_rfl) Z04
theorem Zva : ZS Tryz.prog 25 (Y2 [Y3] (Zh1)) glob := Zcm (XV Z2s (XV Zzd (XV Zzb VZ))) (enters_of Tryz.func25 (by kernel_rfl) rfl) (by as_aux_lemma => kernel_rfl) Zxt
theorem Z2t : ZS Tryz.prog 8 (Y2 [.v (.slice none 0 0)] (.str [127,69,76,70,2,1,1,0,0,0,0,0,0,0,0,0,1,0,62,0,1,0,0,0,0,0,0,0,0,0,0,0,0,0,0,0,0,0,0,0,64,0,0,0,0,0,0,0,0,0,0,0,64,0,0,0,0,0,64,0,0,0,0,0])) glob := Zcm VZ (enters_of Tryz.func8 (by kernel_rfl) rfl) (by as_aux_lemma => kernel_rfl) Zxw
theorem Z2r : ZS Tryz.prog 10 (Y2 [] (.v (.bool true))) glob := Zcm (XV Zpk (XV Zva (XV Zzc (XV Z2t VZ)))) (enters_of Tryz.func10 (by kernel_rfl) rfl) (by as_aux_lemma => kernel_rfl) Zxs
theorem toldL : Told Tryz.prog glob Zg6 := Zd7 (Zhx (XV s_txt (XV Zpk (XV Zzc (XV Zva (XV Z2r VZ)))))) s_mays (Zr9 _ _)
end
section
variable {h : H} {Q : D → H → Prop} {R : Y1}
open Go.Proofs Go.RowKit Go.Deep Go.ChangeShapes Go.WideShapes
theorem u8_lt (s : ByteArray) : ∀ x ∈ ZQ s, x < 256 := by
  intro x hx
  unfold ZQ at hx
  obtain ⟨b, _, rfl⟩ := List.mem_map.1 hx
  exact b.toNat_lt
def Zpm (ss : List (Int × ByteArray)) : List (Nat × List Nat) := ss.map fun p => (p.1.toNat, ZQ p.2)
theorem rawC : ∀ {ss : List (Int × ByteArray)}, (∀ p ∈ ss, (Lit.int .u32 p.1).wf = true) → Zkb (ss.map (Znm .u32)) = VQ (Zpm ss)
  | [], _ => rfl
  | (n, s) :: r, h => by
    have h3 := h (n, s) (List.mem_cons_self ..)
    have ih := rawC (ss := r) fun p hp => h p (List.mem_cons_of_mem _ hp)
    simp [Lit.wf] at h3
    have h4 : 0 ≤ n := h3.1
    have e : Int.ofNat n.toNat = n := Int.toNat_of_nonneg h4
    show .int .u32 n :: .str (ZQ s) :: Zkb (r.map (Znm .u32)) = .int .u32 (Int.ofNat n.toNat) :: .str (ZQ s) :: VQ (Zpm r)
    rw [ih, e]
theorem c7_of {l : List (Nat × List Nat)} {d : D} (h : (l = [] ∧ d = .v (.slice none 0 0)) ∨ d = .sl 0 l.length (VQ l)) : C7 d l := by
  intro h Q R hq
  rcases ‹_ ∨ _› with ⟨rfl, rfl⟩ | rfl
  · exact vc7n (by kernel_rfl) (hq _ _ _ (Nat.le_refl _) (fun _ _ => rfl) (Or.inl ⟨rfl, rfl⟩))
  · exact vc7s (by kernel_rfl) hq
theorem c8_of {l : List (Nat × List Nat)} (hs : SOk (WU l)) : C8 l := by
  intro x h Q R hx hq
  rcases hx with ⟨e, rfl⟩ | ⟨hne, id, rfl⟩
  · rw [e] at hq
    exact vc8n (by kernel_rfl) (by kernel_rfl) (by kernel_rfl) (by kernel_rfl) (by kernel_rfl) (by kernel_rfl) (by kernel_rfl) (by kernel_rfl) (by kernel_rfl) (by kernel_rfl) (by kernel_rfl) (by kernel_rfl) (by kernel_rfl) (by kernel_rfl) (by kernel_rfl) (by kernel_rfl) hq
  · exact vc8s (by kernel_rfl) (by kernel_rfl) (by kernel_rfl) (by kernel_rfl) (by kernel_rfl) (by kernel_rfl) (by kernel_rfl) (by kernel_rfl) (by kernel_rfl) (by kernel_rfl) (by kernel_rfl) (by kernel_rfl) (by kernel_rfl) (by kernel_rfl) (by kernel_rfl) (by kernel_rfl) hs hq
theorem Z14 {l : List (Nat × List Nat)} {d : D} {h : H} (hk : ∀ s ∈ l, s.1 < 4294967296) (hb : ∀ s ∈ l, ∀ b ∈ s.2, b < 256) (hd : (l = [] ∧ d = .v (.slice none 0 0)) ∨ d = .sl 0 l.length (VQ l)) : VC Zg6 Ud 3 [d] h (fun d h' => d = .v (.bool true)) Z0c :=
  vc3 (l := l) (by kernel_rfl) (by kernel_rfl) (by kernel_rfl) (by kernel_rfl) (by kernel_rfl) (by kernel_rfl) (by kernel_rfl) (by kernel_rfl) (by kernel_rfl) (by kernel_rfl) (by kernel_rfl) (c7_of hd) (c8_of (Zu9 hk hb)) (Zu9 hk hb) (by kernel_rfl) fun _ => rfl
theorem Zug : ∀ i cs, glob i = some cs → ∀ d ∈ cs, Zyr d = true := by
  intro i cs hi
  unfold glob at hi
  rcases Ya hi with ⟨_, rfl⟩ | hi
  · exact fun d hd => List.all_eq_true.1 (by kernel_rfl) d hd
  rcases Ya hi with ⟨_, rfl⟩ | hi
  · exact fun d hd => List.all_eq_true.1 (by kernel_rfl) d hd
  cases hi
theorem Ztt {w : World} {ss : List (Int × ByteArray)} {v : Value} (hl : Znl w v 2 (ss.map (Znm .u32))) (hw : ∀ p ∈ ss, (Lit.int .u32 p.1).wf = true) : ∃ d, ((Zpm ss = [] ∧ d = .v (.slice none 0 0)) ∨ d = .sl 0 (Zpm ss).length (VQ (Zpm ss))) ∧ (∀ s ∈ Zpm ss, s.1 < 4294967296) ∧ (∀ s ∈ Zpm ss, ∀ b ∈ s.2, b < 256) ∧ VRel (gW w fun _ _ => none) d v := by
  obtain ⟨ld, h1, h2⟩ := rows_D (Zvn w) hl (fun r hr => by obtain ⟨v, _, rfl⟩ := List.mem_map.1 hr; rfl) (fun r hr u hu => by
    obtain ⟨v, _, rfl⟩ := List.mem_map.1 hr
    simp only [Znm, List.mem_cons, List.not_mem_nil, or_false] at hu
    rcases hu with rfl | rfl <;> rfl)
  refine ⟨ld, ?_, ?_, ?_, h2⟩
  · rw [rawC hw] at h1
    rcases h1 with ⟨h1, rfl⟩ | rfl
    · have : ss = [] := by simpa using h1
      subst this
      exact .inl ⟨rfl, rfl⟩
    · exact .inr (by rw [show (Zpm ss).length = (ss.map (Znm .u32)).length by simp [Zpm]])
  · intro p hp
    obtain ⟨q, hq, rfl⟩ := List.mem_map.1 hp
    have h3 := hw q hq
    simp [Lit.wf] at h3
    have h4 : q.1 ≤ 4294967295 := h3.2
    show q.1.toNat < _
    omega
  · intro p hp b hb
    obtain ⟨q, _, rfl⟩ := List.mem_map.1 hp
    exact u8_lt q.2 b hb
theorem elf_world {w : World} {ss : List (Int × ByteArray)} {v : Value} (hl : Znl w v 2 (ss.map (Znm .u32))) (hw : ∀ p ∈ ss, (Lit.int .u32 p.1).wf = true) (hg : Holds glob w) :
    Calls Tryz.prog 3 #[v] w fun e w' => e = .returned (.bool true) ∧ Below w.heap.size w w' := by
  obtain ⟨d, hd, hk, hb, hv⟩ := Ztt hl hw
  refine (Zqx toldL (Zln Z1q Z0j) (glob_W hg Zug) (Zvn w) (Zyf (Z14 (h := Zcf) hk hb hd)) (.cons hv (.nil _)) (enters_of Tryz.func3 (by kernel_rfl) rfl)).mono ?_
  rintro e w' ⟨d, h', v, g', rfl, rfl, _, hv', hb, _⟩
  cases hv'
  exact ⟨rfl, hb⟩
end
end Run
end
end Go.Abs
