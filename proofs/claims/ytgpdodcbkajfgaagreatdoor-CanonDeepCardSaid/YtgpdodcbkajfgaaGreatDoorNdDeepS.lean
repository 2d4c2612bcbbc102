/- The runs of the texts of so many structs, given by hand where they are called again. -/
import Derived.Test.YtgpdodcbkajfgaaGreatDoorNdDeep0
import Derived.Test.YtgpdodcbkajfgaaGreatDoorNdUsedW
set_option linter.unusedVariables false
set_option linter.unusedSimpArgs false
namespace Go.Abs
namespace Run
open Go.Proofs Go.RowKit
theorem same_iD (i : Nat) : D.same (iD i) (iD i) = true := by simp [iD, D.same]
theorem told_lf {libs : Nat → Option (List D → H → O D)} (ht : Told Tryz.prog glob (envOf Tryz.prog glob libs)) {k : Nat} {lf : List D → H → O D} (hs : Y4 Tryz.prog k lf glob) (hg : ∀ ds h, Xm h (lf ds h)) :
    Told Tryz.prog glob (envOf Tryz.prog glob fun f => bif Nat.beq f k then some lf else libs f) := by
  refine told Tryz.prog glob _ follows' (fun f lf h => ?_) (fun f lf h => ?_)
  · rcases Yv h with ⟨hf, rfl⟩ | h
    · rw [Nat.eq_of_beq_eq_true hf]; exact hs
    · exact ht.lib f lf h
  · rcases Yv h with ⟨hf, rfl⟩ | h
    · exact hg
    · exact ht.libgrow f lf h
def libNm (F : D) (n : Nat) (nm : Nat → List Nat) : List D → H → O D := fun ds h => match ds with
  | [d, .int .i64 (.ofNat i)] => bif D.same d F && Nat.blt i n then .ok (nmD (nm i)) h else .fail "named"
  | _ => .fail "named"
theorem libNm_grow (F : D) (n : Nat) (nm : Nat → List Nat) : ∀ ds h, Xm h (libNm F n nm ds h) := fun ds h => XN fun p d h' ho => by
  unfold libNm at ho
  split at ho
  · rename_i d0 i
    cases hb : (D.same d0 F && Nat.blt i n) with
    | false => rw [hb] at ho; cases p <;> cases ho
    | true => rw [hb] at ho; cases p <;> cases ho; rfl
  · cases p <;> cases ho
theorem libNm_sim {F : D} {n : Nat} {nm : Nat → List Nat} (hone : ∀ i, i < n → Y4 Tryz.prog 68 (Yp [F, iD i] (nmD (nm i))) glob) : Y4 Tryz.prog 68 (libNm F n nm) glob := by
  intro ds h p d h' hr
  unfold libNm at hr
  split at hr
  · rename_i d0 i
    cases hb : (D.same d0 F && Nat.blt i n) with
    | false => rw [hb] at hr; cases p <;> cases hr
    | true =>
      rw [hb] at hr
      simp only [Bool.and_eq_true] at hb
      have e := same_eq hb.1
      subst e
      refine hone i (Nat.le_of_ble_eq_true hb.2) _ h p d h' ?_
      rw [← hr]
      show Yp [d0, iD i] _ [d0, iD i] h = _
      unfold Yp
      have h2 : YQ [d0, iD i] [d0, iD i] = true := by simp only [YQ, hb.1, same_iD, Bool.and_self]
      rw [h2]
      rfl
  · cases p <;> cases hr
theorem libsO_told : ∀ {l : List (Nat × List D × D)}, (∀ x ∈ l, Y4 Tryz.prog x.1 (Yp x.2.1 x.2.2) glob) → Told Tryz.prog glob (envOf Tryz.prog glob (libsO l))
  | [], _ => told0
  | x :: r, h => told_more (libsO_told fun y hy => h y (List.mem_cons_of_mem _ hy)) (h x (List.mem_cons_self ..))
theorem rn_sim {l : List (Nat × List D × D)} (hl : ∀ x ∈ l, Y4 Tryz.prog x.1 (Yp x.2.1 x.2.2) glob) {f : Nat} {ds : List D} {t : D} (hent : ∀ args w, (callFunc f args).run Tryz.prog w = .ok (.enter f args) w)
    (ht : XZ Tryz.prog 40 ds = true) (h : rn l f ds t) : Y4 Tryz.prog f (Yp ds t) glob := libRun_sim (k := 40) (libsO_told hl) (tab_over TA_ok (libsO l)) glob_tree hent ht h
theorem no_sims : ∀ x ∈ ([] : List (Nat × List D × D)), Y4 Tryz.prog x.1 (Yp x.2.1 x.2.2) glob := fun x hx => by cases hx
theorem one_sim {k : Nat} {ds : List D} {t : D} (h : Y4 Tryz.prog k (Yp ds t) glob) : ∀ x ∈ [(k, ds, t)], Y4 Tryz.prog x.1 (Yp x.2.1 x.2.2) glob := fun x hx => by
  cases List.mem_singleton.1 hx; exact h
theorem and_sim {k : Nat} {ds : List D} {t : D} {l : List (Nat × List D × D)} (h : Y4 Tryz.prog k (Yp ds t) glob) (hl : ∀ x ∈ l, Y4 Tryz.prog x.1 (Yp x.2.1 x.2.2) glob) : ∀ x ∈ (k, ds, t) :: l, Y4 Tryz.prog x.1 (Yp x.2.1 x.2.2) glob := fun x hx => by
  rcases List.mem_cons.1 hx with rfl | hx
  · exact h
  · exact hl x hx
theorem ent_parse : ∀ args w, (callFunc 25 args).run Tryz.prog w = .ok (.enter 25 args) w := enters_of Tryz.func25 (by kernel_rfl) rfl
theorem ent_show : ∀ args w, (callFunc 90 args).run Tryz.prog w = .ok (.enter 90 args) w := enters_of Tryz.func90 (by kernel_rfl) rfl
theorem ent_check : ∀ args w, (callFunc 29 args).run Tryz.prog w = .ok (.enter 29 args) w := enters_of Tryz.func29 (by kernel_rfl) rfl
theorem ent_may : ∀ args w, (callFunc 59 args).run Tryz.prog w = .ok (.enter 59 args) w := enters_of Tryz.func59 (by kernel_rfl) rfl
theorem ent_right : ∀ args w, (callFunc 16 args).run Tryz.prog w = .ok (.enter 16 args) w := enters_of Tryz.func16 (by kernel_rfl) rfl
theorem ent_of : ∀ args w, (callFunc 19 args).run Tryz.prog w = .ok (.enter 19 args) w := enters_of Tryz.func19 (by kernel_rfl) rfl
theorem ent_used : ∀ args w, (callFunc 20 args).run Tryz.prog w = .ok (.enter 20 args) w := enters_of Tryz.func20 (by kernel_rfl) rfl
theorem ent_named : ∀ args w, (callFunc 68 args).run Tryz.prog w = .ok (.enter 68 args) w := enters_of Tryz.func68 (by kernel_rfl) rfl
theorem ent_wakes : ∀ args w, (callFunc 17 args).run Tryz.prog w = .ok (.enter 17 args) w := enters_of Tryz.func17 (by kernel_rfl) rfl
theorem ent_law : ∀ args w, (callFunc 9 args).run Tryz.prog w = .ok (.enter 9 args) w := enters_of Tryz.func9 (by kernel_rfl) rfl
noncomputable def libsN (F : D) (n : Nat) (nm : Nat → List Nat) (f : Nat) : Option (List D → H → O D) := bif Nat.beq f 68 then some (libNm F n nm) else libs0 f
def okNm (n : Nat) (nm : Nat → List Nat) : Bool := (List.range n).all fun i => (nm i).all (fun k => Nat.blt k n) && Nat.ble (nm i).length 1000000
def usedL (n : Nat) (nm : Nat → List Nat) : List Nat := ((downto n).foldl (stepU nm) (bs0 n, [])).2.reverse
theorem nmT_nmD (l : List Nat) : nmT l = nmD l := by cases l <;> rfl
theorem usedSim {F : D} {n : Nat} {nm : Nat → List Nat} {c0 : D} {ss rest : List D} (hF : F = .ep (c0 :: .sl 0 n ss :: rest)) (hFF : D.same F F = true) (hn0 : 0 < n) (hn : n ≤ 100000) (hr : namesOk F nm n = true) (ho : okNm n nm = true) {us : List Nat} (hus : usedL n nm = us) (hne : us ≠ []) (ht : XZ Tryz.prog 40 [F] = true) :
    Y4 Tryz.prog 37 (Yp [F] (.sl 0 us.length (us.map iD))) glob := by
  subst hus
  have hall := fun i hi => Bool.and_eq_true_iff.1 (List.all_eq_true.1 hr i (List.mem_range.2 hi))
  have hok := fun i hi => Bool.and_eq_true_iff.1 (List.all_eq_true.1 ho i (List.mem_range.2 hi))
  have hs : Y4 Tryz.prog 68 (libNm F n nm) glob := libNm_sim fun i hi => by
    have h1 := hall i hi
    have h2 := rn_sim no_sims ent_named h1.2 h1.1
    rw [nmT_nmD] at h2
    exact h2
  have hT : Told Tryz.prog glob (envOf Tryz.prog glob (libsN F n nm)) := told_lf told0 hs (libNm_grow F n nm)
  refine used_sim (k := 40) hT (tab_over TA_ok (libsN F n nm)) (by kernel_rfl) (lf := libNm F n nm) rfl F c0 ss rest n hF hn0 hn nm (fun i hi k hk => Nat.le_of_ble_eq_true (List.all_eq_true.1 (hok i hi).1 k hk)) (fun i hi => Nat.le_of_ble_eq_true (hok i hi).2) (fun i hi h => ?_) (usedL n nm) (by simp [usedL]) hne ht
  show libNm F n nm [F, .int .i64 (.ofNat i)] h = _
  unfold libNm
  have hb : Nat.blt i n = true := by simpa [Nat.blt_eq] using hi
  simp only [hFF, hb, Bool.and_self, cond_true]
def wF : D := .ep [nilS, .sl 0 1 [.str [83], nilS, .sl 0 1 [.str [97], .int .i64 (.ofNat 0), .int .i64 (.ofNat 0), .str [], .str [], .int .i64 (.negSucc 0), .int .i64 (.ofNat 0), .v (.bool false), nilS]], .sl 0 1 [.int .i64 (.ofNat 0), .str [], .int .u64 (.ofNat 1), .str [], nilS], .sl 0 1 [.int .i64 (.ofNat 3), .int .i64 (.ofNat 0), .v (.bool false), .str [], nilS, .int .i64 (.ofNat 0), .int .i64 (.negSucc 0), nilS]]
def wU : Nat × List D × D := (37, [wF], .sl 0 1 [.int .i64 (.ofNat 0)])
def wT : D := .str [115, 116, 114, 117, 99, 116, 32, 83, 32, 123, 32, 97, 58, 32, 115, 107, 105, 112, 91, 49, 93, 59, 32, 125]
theorem wakes_parse : rn [] 25 [wT] (.tup (wF :: noErr)) := by unfold rn; kernel_rfl
def wR : D := .tup [.str [], .int .i64 (.ofNat 0)]
def wC : D := .tup [.agg [.v (.bool false), .v (.bool true), .sl 0 1 [.str [97]], nilS, .int .i64 (.ofNat 1)], .int .i64 (.ofNat 0)]
theorem wakes_right : rn [] 16 [wF] wR := by unfold rn; kernel_rfl
theorem wakes_of : rn [(16, [wF], wR), wU] 19 [wF] wC := by unfold rn; kernel_rfl
theorem wakes_run : rn [(25, [wT], .tup (wF :: noErr)), (19, [wF], wC)] 17 [] yesT := by unfold rn; kernel_rfl
theorem wakes_used : Y4 Tryz.prog 37 (Yp [wF] (.sl 0 1 [.int .i64 (.ofNat 0)])) glob :=
  usedSim (n := 1) (nm := fun _ => []) rfl (by kernel_rfl) (by decide) (by decide) (by kernel_rfl) (by kernel_rfl) (us := [0]) (by kernel_rfl) (by decide) (by kernel_rfl)
theorem wakes_sim : Y4 Tryz.prog 17 (Yp [] yesT) glob := rn_sim (and_sim (rn_sim no_sims ent_parse (by kernel_rfl) wakes_parse) (one_sim (rn_sim (and_sim (rn_sim no_sims ent_right (by kernel_rfl) wakes_right) (one_sim wakes_used)) ent_of (by kernel_rfl) wakes_of))) ent_wakes rfl wakes_run
end Run
end Go.Abs
