/- What reading asks of the table, for the description of elf. -/
import Derived.Test.YthifolidfjpdkaaGreatDoorRfX
import Derived.Test.YthifolidfjpdkaaGreatDoorRfF
set_option linter.unusedVariables false
set_option linter.unusedSimpArgs false
namespace Go.Abs
noncomputable section
namespace Run
variable {E : Env} {T : Nat → Yd}
set_option maxHeartbeats 4000000
set_option maxRecDepth 100000
section
variable {h : H} {Q : D → H → Prop} {R : Y1}
def lawRuns : Zqm := [(6, [], Yk), (5, [Yk], U2), (56, [Y3], iD 1), (25, [Y3], Zh1), (10, [], .v (.bool true))]
def Z0j (f : Nat) : Option (List D → H → O D) := bq (Nat.beq f 233) (some (Zhy (Zqr Zsu Y4.es) Y4.es.length)) (Zon lawRuns f)
def Zg6 : Env := Zhh Go.Proofs.Tryz.prog glob Z0j
def Ud : Nat → Yd := Zu6 Z0j TA
abbrev dsX : D := Zqr encS Y4.ss
abbrev deX : D := Zqr Zsu Y4.es
abbrev dtX : D := Zqr encT Y4.ts
theorem etL : ET Zg6 Ud Y4.es deX where
  h301 := by kernel_rfl
  h340 := by kernel_rfl
  h319 := by kernel_rfl
  h302 := by kernel_rfl
  h276 := by kernel_rfl
  h234 := by kernel_rfl
  h182 := by kernel_rfl
  h300 := by kernel_rfl
  h233 := by kernel_rfl
  wf := by
    intro i x hx j hj
    have h : (List.range Y4.es.length).all (fun i => match Y4.es[i]? with | some x => x.kids.all (fun j => decide (j < i)) | none => true) = true := by kernel_rfl
    have hi : i < Y4.es.length := by
      rcases Nat.lt_or_ge i Y4.es.length with h | h
      · exact h
      · rw [List.getElem?_eq_none h] at hx; cases hx
    have h2 := List.all_eq_true.mp h i (List.mem_range.mpr hi)
    simp only [hx] at h2
    exact of_decide_eq_true (List.all_eq_true.mp h2 j hj)
  row := encE_ok _
  same := by kernel_rfl
  nl := fun cs h ox oy => rfl
theorem rtL : RT Zg6 Ud Y4 dsX deX dtX where
  et := etL
  h57 := by kernel_rfl
  h85 := by kernel_rfl
  h172 := by kernel_rfl
  h125 := by kernel_rfl
  h121 := by kernel_rfl
  h171 := by kernel_rfl
  h78 := by kernel_rfl
  h111 := by kernel_rfl
  h159 := by kernel_rfl
  h122 := by kernel_rfl
  h11 := by kernel_rfl
  h229 := by kernel_rfl
  h16 := by kernel_rfl
  h123 := by kernel_rfl
  h178 := by kernel_rfl
  h227 := by kernel_rfl
  rowS := encS_ok _
  rowT := encT_ok _
  lenE := by decide
  ints := by
    intro t ht hk
    have h : Y4.ts.all (fun t => if t.k = 0 then decide (t.size = 1 ∨ t.size = 2 ∨ t.size = 3 ∨ t.size = 4 ∨ t.size = 8) else true) = true := by kernel_rfl
    have h2 := List.all_eq_true.mp h t ht
    rw [if_pos hk] at h2
    unfold Ue
    exact of_decide_eq_true h2
theorem rt2L : RT2 Zg6 Ud where
  h177 := by kernel_rfl
  h173 := by kernel_rfl
  h174 := by kernel_rfl
  h175 := by kernel_rfl
  h179 := by kernel_rfl
  h88 := by kernel_rfl
  h89 := by kernel_rfl
  h65 := by kernel_rfl
  h55 := by kernel_rfl
  h86 := by kernel_rfl
  h228 := by kernel_rfl
theorem rwL : RW Zg6 Ud Y4 dsX deX dtX 1 where
  h26 := by kernel_rfl
  h9 := by kernel_rfl
  h56 := by kernel_rfl
  h25 := by kernel_rfl
  same := by kernel_rfl
  sameS := by kernel_rfl
  dD := by kernel_rfl
  i1 := fun a b h => rfl
  j1 := fun h => rfl
end
section
variable {h : H} {Q : D → H → Prop} {R : Y1}
theorem headB_b {a n : Nat} : ∀ b ∈ Zbp a n, b < 256 := by
  intro b hb
  unfold Zbp at hb
  simp only [List.mem_append] at hb
  rcases hb with (((((hb | hb) | hb) | hb) | hb) | hb) | hb
  · revert b; decide
  · revert b; decide
  · revert b; decide
  · rcases hb with ((((hb | hb) | hb) | hb) | hb) | hb <;> exact Zsc b hb
  · rcases hb with (((hb | hb) | hb) | hb) | hb <;> exact Zsc b hb
  · exact Zsc b hb
  · exact Zsc b hb
theorem elfB_b {sx : List (Nat × List Nat)} (hs : SOk sx) : ∀ b ∈ UB sx, b < 256 := by
  intro b hb
  unfold UB at hb
  simp only [List.mem_append] at hb
  rcases hb with (hb | hb) | hb
  · exact headB_b b hb
  · exact Zqf hs.b b hb
  · exact Zto b hb
theorem Z12 {sx : List (Nat × List Nat)} {ext : List Nat} (hs : SOk sx) (hx : ext.length ≤ 1) (hb : ∀ b ∈ ext, b < 256) {h : H} {Q : D → H → Prop} {R : Y1} (hq : ∀ h' a b c d, Rep (Z07 sx ext) [a, b, c, d] → h.next ≤ h'.next → (∀ x, x < h.next → hget h'.mem x = hget h.mem x) → Q (.tup [.agg [a, b, c, d], .int .i64 (.ofNat 0), .int .i64 (.ofNat 0)]) h') : VC Zg6 Ud 9 [Y3, .str (UB sx ++ ext)] h Q R := by
  obtain ⟨f, n, hr⟩ := Z05 (crc := fun _ => 0) hs hx
  have hd := Zir hs.d
  have hn := hs.n
  rw [← Zxx]
  refine vc9 (crc := fun _ => 0) (f := f) rwL rtL rt2L elfX_ok ?_ ?_ ?_
  · intro b h1
    rcases List.mem_append.mp h1 with h1 | h1
    · exact elfB_b hs b h1
    · exact hb b h1
  · rw [List.length_append, Ziq]; omega
  · rw [hr]
    exact fun h' a b c d h1 h2 h3 => hq h' a b c d h1 h2 fun x hx => h3 x hx (by omega)
end
section
variable {h : H} {Q : D → H → Prop} {R : Y1}
theorem Zu9 {l : List (Nat × List Nat)} (hk : ∀ s ∈ l, s.1 < 4294967296) (hb : ∀ s ∈ l, ∀ b ∈ s.2, b < 256) : SOk (WU l) := by
  have hm : ∀ s ∈ WU l, ∃ u ∈ l, s = (u.1, u.2.take 300) := by
    intro s hs
    obtain ⟨u, hu, rfl⟩ := List.mem_map.mp hs
    exact ⟨u, List.mem_of_mem_take hu, rfl⟩
  refine ⟨by rw [Zq9]; omega, fun s hs => ?_, fun s hs => ?_, fun s hs b h => ?_⟩
  · obtain ⟨u, hu, rfl⟩ := hm s hs
    exact hk u hu
  · obtain ⟨u, hu, rfl⟩ := hm s hs
    simp only [List.length_take]; omega
  · obtain ⟨u, hu, rfl⟩ := hm s hs
    exact hb u hu b (List.mem_of_mem_take h)
end
end Run
end
end Go.Abs
