/- The law, from the runs. -/
import Derived.Test.YtgpdodcbkajfgaaGreatDoorNdDeepS
import Derived.Test.YtgpdodcbkajfgaaGreatDoorNdParse
import Derived.Test.YtgpdodcbkajfgaaGreatDoorNdRun0R
import Derived.Test.YtgpdodcbkajfgaaGreatDoorNdRun1R
import Derived.Test.YtgpdodcbkajfgaaGreatDoorNdRun2R
import Derived.Test.YtgpdodcbkajfgaaGreatDoorNdRun3R
import Derived.Test.YtgpdodcbkajfgaaGreatDoorNdRun4R
import Derived.Test.YtgpdodcbkajfgaaGreatDoorNdRun5R
import Derived.Test.YtgpdodcbkajfgaaGreatDoorNdRun6R
import Derived.Test.YtgpdodcbkajfgaaGreatDoorNdRun7R
import Derived.Test.YtgpdodcbkajfgaaGreatDoorNdTree
set_option linter.unusedVariables false
set_option linter.unusedSimpArgs false
namespace Go.Abs
namespace Run
open Go.Proofs Go.RowKit
theorem upTo_len {α : Type} {f : Nat → List α} (hf : ∀ i, (f i).length = 1) : ∀ n i, (upTo f n i).length = n
  | 0, _ => rfl
  | n + 1, i => by rw [upTo, List.length_append, hf, upTo_len hf n]; omega
theorem fileT_eq (k : Nat) : YB k = .ep (nilS :: .sl 0 (k + 1) ((upTo scF (k + 1) 0).flatMap scT) :: [slT 0 [], slT (upTo tyF (k + 1) 0).length ((upTo tyF (k + 1) 0).flatMap tyT)]) := by
  have h : slT (upTo scF (k + 1) 0).length ((upTo scF (k + 1) 0).flatMap scT) = .sl 0 (k + 1) ((upTo scF (k + 1) 0).flatMap scT) := by
    rw [upTo_len (f := scF) (fun _ => rfl)]; rfl
  show D.ep [slT 0 [], slT (upTo scF (k + 1) 0).length ((upTo scF (k + 1) 0).flatMap scT), slT 0 [], slT (upTo tyF (k + 1) 0).length ((upTo tyF (k + 1) 0).flatMap tyT)] = _
  rw [h]; rfl
theorem tup_same {t : D} (h : D.same t t = true) : D.same (.tup [t, .agg [.int .i64 (.ofNat 0), .int .i64 (.ofNat 0)], .int .i64 (.ofNat 0)]) (.tup [t, .agg [.int .i64 (.ofNat 0), .int .i64 (.ofNat 0)], .int .i64 (.ofNat 0)]) = true := by
  have h2 : D.same (.agg [.int .i64 (.ofNat 0), .int .i64 (.ofNat 0)]) (.agg [.int .i64 (.ofNat 0), .int .i64 (.ofNat 0)]) = true := by decide
  simp only [D.same, YQ, h] at h2 ⊢
  simp [h2, Xd]
theorem and4 {a b c d : Bool} (h : (a && b && c && d) = true) : a = true ∧ b = true ∧ c = true ∧ d = true := by simpa [and_assoc] using h
theorem Deep.parseA {k : Nat} (r : Deep k) : Y4 Tryz.prog 25 (Yp [textA k] (parsedT k)) glob := parse_sim r.pa rfl (and4 r.tr).1 (tup_same (and4 r.tr).2.2.2)
theorem Deep.parseB {k : Nat} (r : Deep k) : Y4 Tryz.prog 25 (Yp [textB k] (parsedT k)) glob := parse_sim r.pb rfl (and4 r.tr).2.1 (tup_same (and4 r.tr).2.2.2)
theorem Deep.shown {k : Nat} (r : Deep k) : Y4 Tryz.prog 90 (Yp [YB k] (shownT k)) glob := rn_sim (one_sim r.parseB) ent_show (and4 r.tr).2.2.1 r.sh
theorem Deep.may {k : Nat} (r : Deep k) : Y4 Tryz.prog 59 (Yp [YB k] yesT) glob := rn_sim (one_sim r.shown) ent_may (and4 r.tr).2.2.1 r.ma
theorem Deep.check {k : Nat} (r : Deep k) : Y4 Tryz.prog 29 (Yp [YB k] okT) glob := rn_sim (one_sim r.may) ent_check (and4 r.tr).2.2.1 r.ck
theorem Deep.right {k : Nat} (r : Deep k) : Y4 Tryz.prog 16 (Yp [YB k] (rightT k)) glob := rn_sim (one_sim r.check) ent_right (and4 r.tr).2.2.1 r.ri
def usOk (k : Nat) : Bool := okNm (k + 1) nmL && beqL (usedL (k + 1) nmL) (List.range (k + 1)) && D.same (usedT k) (.sl 0 (List.range (k + 1)).length ((List.range (k + 1)).map iD))
theorem us_all : (List.range 32).all usOk = true := by kernel_rfl
theorem Deep.uses {k : Nat} (r : Deep k) (hk : k < 32) : Y4 Tryz.prog 37 (Yp [YB k] (usedT k)) glob := by
  have h := List.all_eq_true.1 us_all k (List.mem_range.2 hk)
  simp only [usOk, Bool.and_eq_true] at h
  rw [same_eq h.2]
  exact usedSim (n := k + 1) (nm := nmL) (fileT_eq k) (and4 r.tr).2.2.2 (by omega) (by omega) (r.nm hk) h.1.1 (of_decide_eq_true ((beqL_eq _ _).symm.trans h.1.2)) (by simp) (and4 r.tr).2.2.1
theorem Deep.cls {k : Nat} (r : Deep k) : Y4 Tryz.prog 19 (Yp [YB k] (clsT k)) glob := by
  have h := r.of
  cases hb : Nat.blt k 32 with
  | false => rw [hb] at h; exact rn_sim (one_sim r.right) ent_of (and4 r.tr).2.2.1 h
  | true => rw [hb] at h; exact rn_sim (and_sim r.right (one_sim (r.uses (Nat.le_of_ble_eq_true hb)))) ent_of (and4 r.tr).2.2.1 h
theorem Deep.use {k : Nat} (r : Deep k) (hk : k < 32) : Y4 Tryz.prog 20 (Yp [YB k] (usedT k)) glob := rn_sim (and_sim r.right (one_sim (r.uses hk))) ent_used (and4 r.tr).2.2.1 (r.us hk)
theorem Deep.sims {k : Nat} (r : Deep k) : ∀ x ∈ lawL k, Y4 Tryz.prog x.1 (Yp x.2.1 x.2.2) glob := by
  refine and_sim r.parseA (and_sim r.right (and_sim r.cls (and_sim wakes_sim ?_)))
  cases hb : Nat.blt k 32 with
  | false => exact no_sims
  | true => exact one_sim (r.use (Nat.le_of_ble_eq_true hb))
theorem Deep.calls {k : Nat} (r : Deep k) {j : Nat} (hj : j < 7) (hn : k + 40 * j < 256) {w : World} (hg : Holds glob w) :
    Calls Tryz.prog 9 #[.int .u8 (.ofNat (k + 40 * j))] w fun e w' => e = .returned (.bool true) ∧ Below w.heap.size w w' := by
  have h := List.all_eq_true.1 r.lw j (List.mem_range.2 hj)
  have hb : Nat.blt (k + 40 * j) 256 = true := by simpa [Nat.blt_eq] using hn
  rw [hb] at h
  obtain ⟨h', hr⟩ := isT_eq (show Go.Abs.isT _ = true from h)
  have hr' : Yb (envOf Tryz.prog glob (libsO (lawL k))) (tover (libsO (lawL k)) TA) 100000 9 [.int .u8 (.ofNat (k + 40 * j))] hTop = .ok (.v (.bool true)) h' := hr
  exact top_calls (libsO_told r.sims) (h' := h') ((fcall_ok (tab_over TA_ok (libsO (lawL k))) _ _ _ hTop (by rw [hr']; trivial)).trans hr') (fun g => .cons (.int _ _) (.nil g)) hg ent_law
theorem deep_calls (hall : ∀ k, k < 40 → Deep k) {n : Nat} (hn : n < 256) {w : World} (hg : Holds glob w) :
    Calls Tryz.prog 9 #[.int .u8 (.ofNat n)] w fun e w' => e = .returned (.bool true) ∧ Below w.heap.size w w' := by
  have h := (hall (n % 40) (by omega)).calls (j := n / 40) (by omega) (by omega) hg
  have e : n % 40 + 40 * (n / 40) = n := Nat.mod_add_div n 40
  rw [e] at h
  exact h
end Run
end Go.Abs
namespace Go.Abs
namespace Run
open Go.Proofs Go.RowKit
theorem deep_all (k : Nat) (h : k < 40) : Deep k := by
  have hk : k = 0 ∨ k = 1 ∨ k = 2 ∨ k = 3 ∨ k = 4 ∨ k = 5 ∨ k = 6 ∨ k = 7 ∨ k = 8 ∨ k = 9 ∨ k = 10 ∨ k = 11 ∨ k = 12 ∨ k = 13 ∨ k = 14 ∨ k = 15 ∨ k = 16 ∨ k = 17 ∨ k = 18 ∨ k = 19 ∨ k = 20 ∨ k = 21 ∨ k = 22 ∨ k = 23 ∨ k = 24 ∨ k = 25 ∨ k = 26 ∨ k = 27 ∨ k = 28 ∨ k = 29 ∨ k = 30 ∨ k = 31 ∨ k = 32 ∨ k = 33 ∨ k = 34 ∨ k = 35 ∨ k = 36 ∨ k = 37 ∨ k = 38 ∨ k = 39 := by omega
  rcases hk with rfl | rfl | rfl | rfl | rfl | rfl | rfl | rfl | rfl | rfl | rfl | rfl | rfl | rfl | rfl | rfl | rfl | rfl | rfl | rfl | rfl | rfl | rfl | rfl | rfl | rfl | rfl | rfl | rfl | rfl | rfl | rfl | rfl | rfl | rfl | rfl | rfl | rfl | rfl | rfl
  · exact deep0
  · exact deep1
  · exact deep2
  · exact deep3
  · exact deep4
  · exact deep5
  · exact deep6
  · exact deep7
  · exact deep8
  · exact deep9
  · exact deep10
  · exact deep11
  · exact deep12
  · exact deep13
  · exact deep14
  · exact deep15
  · exact deep16
  · exact deep17
  · exact deep18
  · exact deep19
  · exact deep20
  · exact deep21
  · exact deep22
  · exact deep23
  · exact deep24
  · exact deep25
  · exact deep26
  · exact deep27
  · exact deep28
  · exact deep29
  · exact deep30
  · exact deep31
  · exact deep32
  · exact deep33
  · exact deep34
  · exact deep35
  · exact deep36
  · exact deep37
  · exact deep38
  · exact deep39
theorem u8_nat {a : Int} (h : (Lit.int .u8 a).wf = true) : ∃ n : Nat, n < 256 ∧ a = .ofNat n := by
  simp [Lit.wf] at h
  have h2 : a ≤ 255 := h.2
  exact ⟨a.toNat, by omega, (Int.toNat_of_nonneg h.1).symm⟩
theorem deep_world {w : World} (hg : Holds glob w) {a : Int} (ha : (Lit.int .u8 a).wf = true) : Calls Tryz.prog 9 #[.int .u8 a] w fun e w' => e = .returned (.bool true) ∧ Below w.heap.size w w' := by
  obtain ⟨n, hn, rfl⟩ := u8_nat ha
  exact deep_calls deep_all hn hg
end Run
end Go.Abs
