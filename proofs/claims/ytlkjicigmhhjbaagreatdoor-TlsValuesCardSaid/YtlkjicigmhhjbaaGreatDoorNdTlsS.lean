/- What was reckoned, given by hand. -/
import Derived.Test.YtlkjicigmhhjbaaGreatDoorNdTls0
import Derived.Test.YtlkjicigmhhjbaaGreatDoorNdTlsT
import Derived.Test.YtlkjicigmhhjbaaGreatDoorNdTlex
import Derived.Test.YtlkjicigmhhjbaaGreatDoorNdTparse
import Derived.Test.YtlkjicigmhhjbaaGreatDoorNdTshow
import Derived.Test.YtlkjicigmhhjbaaGreatDoorNdTcheck
import Derived.Test.YtlkjicigmhhjbaaGreatDoorNdTright
import Derived.Test.YtlkjicigmhhjbaaGreatDoorNdTwakes
set_option linter.unusedVariables false
set_option linter.unusedSimpArgs false
namespace Go.Abs
noncomputable section
namespace Run
open Go.Proofs Go.RowKit
set_option maxHeartbeats 100000000
set_option maxRecDepth 100000
theorem Z8h (i : Nat) : D.same (iD i) (iD i) = true := by simp [iD, D.same]
theorem Zzn {libs : Nat → Option (List D → H → O D)} (ht : Told Tryz.prog glob (Zcc Tryz.prog glob libs)) {k : Nat} {lf : List D → H → O D} (hs : Yc Tryz.prog k lf glob) (hg : ∀ ds h, XZ h (lf ds h)) :
    Told Tryz.prog glob (Zcc Tryz.prog glob fun f => bif Nat.beq f k then some lf else libs f) := by
  refine Z7j Tryz.prog glob _ Zkt (fun f lf h => ?_) (fun f lf h => ?_)
  · rcases Yp h with ⟨hf, rfl⟩ | h
    · rw [Nat.eq_of_beq_eq_true hf]; exact hs
    · exact ht.lib f lf h
  · rcases Yp h with ⟨hf, rfl⟩ | h
    · exact hg
    · exact ht.libgrow f lf h
def Zkq (F : D) (n : Nat) (nm : Nat → List Nat) : List D → H → O D := fun ds h => match ds with
  | [d, .int .i64 (.ofNat i)] => bif D.same d F && Nat.blt i n then .ok (nmD (nm i)) h else .fail "named"
  | _ => .fail "named"
theorem Zym (F : D) (n : Nat) (nm : Nat → List Nat) : ∀ ds h, XZ h (Zkq F n nm ds h) := fun ds h => Wu fun p d h' ho => by
  unfold Zkq at ho
  split at ho
  · rename_i d0 i
    cases hb : (D.same d0 F && Nat.blt i n) with
    | false => rw [hb] at ho; cases p <;> cases ho
    | true => rw [hb] at ho; cases p <;> cases ho; rfl
  · cases p <;> cases ho
theorem Z2d {F : D} {n : Nat} {nm : Nat → List Nat} (hone : ∀ i, i < n → Yc Tryz.prog 79 (Yy [F, iD i] (nmD (nm i))) glob) : Yc Tryz.prog 79 (Zkq F n nm) glob := by
  intro ds h p d h' hr
  unfold Zkq at hr
  split at hr
  · rename_i d0 i
    cases hb : (D.same d0 F && Nat.blt i n) with
    | false => rw [hb] at hr; cases p <;> cases hr
    | true =>
      rw [hb] at hr
      simp only [Bool.and_eq_true] at hb
      have e := Zj9 hb.1
      subst e
      refine hone i (Nat.le_of_ble_eq_true hb.2) _ h p d h' ?_
      rw [← hr]
      show Yy [d0, iD i] _ [d0, iD i] h = _
      unfold Yy
      have h2 : YP [d0, iD i] [d0, iD i] = true := by simp only [YP, hb.1, Z8h, Bool.and_self]
      rw [h2]
      rfl
  · cases p <;> cases hr
theorem Zjg : ∀ {l : List (Nat × List D × D)}, (∀ x ∈ l, Yc Tryz.prog x.1 (Yy x.2.1 x.2.2) glob) → Told Tryz.prog glob (Zcc Tryz.prog glob (Zmr l))
  | [], _ => told1
  | x :: r, h => by
    have e : Zmr (x :: r) = fun f => bif Nat.beq f x.1 then some (Yy x.2.1 x.2.2) else Zmr r f := funext fun f => Z0r ..
    rw [e]
    exact Z01 (Zjg fun y hy => h y (List.mem_cons_of_mem _ hy)) (h x (List.mem_cons_self ..))
theorem Zar {l : List (Nat × List D × D)} (hl : ∀ x ∈ l, Yc Tryz.prog x.1 (Yy x.2.1 x.2.2) glob) {f : Nat} {ds : List D} {t : D} (hent : ∀ args w, (callFunc f args).run Tryz.prog w = .ok (.enter f args) w)
    (ht : Zc9 Tryz.prog 40 ds = true) (h : rn l f ds t) : Yc Tryz.prog f (Yy ds t) glob := Zyl (k := 40) (Zjg hl) (Zj3 Z0t (Zmr l)) Zsf hent ht h
theorem V1 : ∀ x ∈ ([] : List (Nat × List D × D)), Yc Tryz.prog x.1 (Yy x.2.1 x.2.2) glob := fun x hx => by cases hx
theorem XA {k : Nat} {ds : List D} {t : D} {l : List (Nat × List D × D)} (h : Yc Tryz.prog k (Yy ds t) glob) (hl : ∀ x ∈ l, Yc Tryz.prog x.1 (Yy x.2.1 x.2.2) glob) : ∀ x ∈ (k, ds, t) :: l, Yc Tryz.prog x.1 (Yy x.2.1 x.2.2) glob := fun x hx => by
  rcases List.mem_cons.1 hx with rfl | hx
  · exact h
  · exact hl x hx
def okNm (n : Nat) (nm : Nat → List Nat) : Bool := (List.range n).all fun i => (nm i).all (fun k => Nat.blt k n) && Nat.ble (nm i).length 1000000
def Z29 (n : Nat) (nm : Nat → List Nat) : List Nat := ((Zjn n).foldl (Zai nm) (Zxg n, [])).2.reverse
theorem s_lex : Yc Tryz.prog 29 (Yy [Xo] (Zla)) glob := Zar V1 (enters_of Tryz.func29 (by kernel_rfl) rfl) (by as_aux_lemma => kernel_rfl) Z7o
theorem Zzu : Yc Tryz.prog 16 (Yy [Xo] (Zep)) glob := Zar (XA s_lex V1) (enters_of Tryz.func16 (by kernel_rfl) rfl) (by as_aux_lemma => kernel_rfl) Z05
theorem Z4e : Yc Tryz.prog 121 (Yy [ZK] (Zg6)) glob := Zar (XA Zzu V1) (enters_of Tryz.func121 (by kernel_rfl) rfl) (by as_aux_lemma => kernel_rfl) Z3d
theorem Zu3 : Yc Tryz.prog 84 (Yy [ZK] (.v (.bool true))) glob := Zar (XA Z4e V1) (enters_of Tryz.func84 (by kernel_rfl) rfl) (by as_aux_lemma => kernel_rfl) Z7n
theorem Z8j : Yc Tryz.prog 105 (Yy [ZK] (Ziv)) glob := Zar (XA Zu3 V1) (enters_of Tryz.func105 (by kernel_rfl) rfl) (by as_aux_lemma => kernel_rfl) Z07
theorem Z4f : Yc Tryz.prog 58 (Yy [ZK] (iD 11)) glob := Zar (XA Zu3 V1) (enters_of Tryz.func58 (by kernel_rfl) rfl) (by as_aux_lemma => kernel_rfl) Z3f
theorem Zzt : Yc Tryz.prog 50 (Yy [ZK] (Ziv)) glob := Zar (XA Z8j (XA Zu3 (XA Z4e V1))) (enters_of Tryz.func50 (by kernel_rfl) rfl) (by as_aux_lemma => kernel_rfl) Z04
def libsN (f : Nat) : Option (List D → H → O D) := bif Nat.beq f 79 then some (Zkq ZK 12 Zbl) else Zh3 f
theorem Z2l : ∀ args w, (callFunc 79 args).run Tryz.prog w = .ok (.enter 79 args) w := enters_of Tryz.func79 (by kernel_rfl) rfl
theorem Z7m : ((List.range 12).all fun i => Zc9 Tryz.prog 40 [ZK, iD i]) = true := by as_aux_lemma => kernel_rfl
theorem Z7l : okNm 12 Zbl = true := by as_aux_lemma => kernel_rfl
theorem Z3e : D.same ZK ZK = true := by as_aux_lemma => kernel_rfl
theorem Z03 : ZK = .ep (Z3g :: .sl 0 12 Z3c :: Zuj) := by as_aux_lemma => kernel_rfl
theorem Z3a : Z29 12 Zbl = Zxs := by as_aux_lemma => kernel_rfl
theorem Z7k : Zok = .sl 0 Zxs.length (Zxs.map iD) := by as_aux_lemma => kernel_rfl
theorem Z3b : Zc9 Tryz.prog 40 [ZK] = true := by as_aux_lemma => kernel_rfl
theorem s_used : Yc Tryz.prog 51 (Yy [ZK] Zok) glob := by
  have hs : Yc Tryz.prog 79 (Zkq ZK 12 Zbl) glob := Z2d fun i hi => by
    have h1 : rn [] 79 [ZK, iD i] (nmD (Zbl i)) := List.all_eq_true.1 Z06 i (List.mem_range.2 hi)
    exact Zar V1 Z2l (List.all_eq_true.1 Z7m i (List.mem_range.2 hi)) h1
  have hT : Told Tryz.prog glob (Zcc Tryz.prog glob libsN) := Zzn told0 hs (Zym ZK 12 Zbl)
  have hok := fun i (hi : i < 12) => Bool.and_eq_true_iff.1 (List.all_eq_true.1 Z7l i (List.mem_range.2 hi))
  rw [Z7k, ← Z3a]
  refine Z28 (k := 40) hT (Zj3 Z0t libsN) (by kernel_rfl) (lf := Zkq ZK 12 Zbl) rfl ZK Z3g Z3c Zuj 12 Z03 (by decide) (by decide) Zbl (fun i hi k hk => Nat.le_of_ble_eq_true (List.all_eq_true.1 (hok i hi).1 k hk)) (fun i hi => Nat.le_of_ble_eq_true (hok i hi).2) (fun i hi h => ?_) (Z29 12 Zbl) (by simp [Z29]) (by rw [Z3a]; exact fun e => by cases e) Z3b
  show Zkq ZK 12 Zbl [ZK, .int .i64 (.ofNat i)] h = _
  unfold Zkq
  have hb : Nat.blt i 12 = true := by simpa [Nat.blt_eq] using hi
  simp only [Z3e, hb, Bool.and_self, cond_true]
theorem s_of : Yc Tryz.prog 33 (Yy [ZK] (Zf7)) glob := Zar (XA Zzt (XA s_used (XA Z4f (XA Zu3 V1)))) (enters_of Tryz.func33 (by kernel_rfl) rfl) (by as_aux_lemma => kernel_rfl) tls_of
theorem Z8i : Yc Tryz.prog 7 (Yy [] (.v (.bool true))) glob := Zar (XA Zzu (XA Zzt (XA s_of (XA Z4f (XA Zu3 V1))))) (enters_of Tryz.func7 (by kernel_rfl) rfl) (by as_aux_lemma => kernel_rfl) Z02
theorem s_t0 : Yc Tryz.prog 8 (Yy [] Xo) glob := Zar V1 (enters_of Tryz.func8 (by kernel_rfl) rfl) (by as_aux_lemma => kernel_rfl) tls_t8
theorem s_t1 : Yc Tryz.prog 9 (Yy [] Xo) glob := Zar V1 (enters_of Tryz.func9 (by kernel_rfl) rfl) (by as_aux_lemma => kernel_rfl) tls_t9
end Run
end
end Go.Abs
