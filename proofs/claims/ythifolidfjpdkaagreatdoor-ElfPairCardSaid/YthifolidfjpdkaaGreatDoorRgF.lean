/- What reading asks of the table, for the description of elf. -/
import Derived.Test.YthifolidfjpdkaaGreatDoorRfX
import Derived.Test.YthifolidfjpdkaaGreatDoorRfF
import Derived.Test.YthifolidfjpdkaaGreatDoorReA
import Derived.Test.YthifolidfjpdkaaGreatDoorRdS
import Derived.Test.YthifolidfjpdkaaGreatDoorNdLibS
import Derived.Test.YthifolidfjpdkaaGreatDoorLibW
import Derived.Test.YthifolidfjpdkaaGreatDoorNdElf
import Derived.Test.YthifolidfjpdkaaGreatDoorNdTable
set_option linter.unusedVariables false
set_option linter.unusedSimpArgs false
namespace Go.Abs
noncomputable section
namespace Run
variable {E : Env} {T : Nat → ZV}
set_option maxHeartbeats 4000000
set_option maxRecDepth 100000
variable {h : H} {Q : D → H → Prop} {R : ZM}
def Z76 : Zl7 := [(6,[],Y5),(5,[Y5],VW),(56,[Z5],iD 1),(25,[Z5],Zgw),(10,[],.v (.bool true))]
def Z4j (f : Nat) : Option (List D → H → O D) := bq (Nat.beq f 233) (some (Zht (Zr4 Zs5 ZS.es) ZS.es.length)) (Zmk Z76 f)
def Zm0 : Env := Zfw Go.Proofs.Tryz.prog glob Z4j
def Znp : Nat → ZV := Zqd Z4j TA
abbrev dsX : D := Zr4 encS ZS.ss
abbrev deX : D := Zr4 Zs5 ZS.es
abbrev dtX : D := Zr4 encT ZS.ts
theorem etL : ET Zm0 Znp ZS.es deX where
  h301 := by kernel_rfl
  h340 := by kernel_rfl
  h319 := by kernel_rfl
  h302 := by kernel_rfl
  h276 := by kernel_rfl
  h234 := by kernel_rfl
  h182 := by kernel_rfl
  h300 := by kernel_rfl
  h233 := by kernel_rfl
  wf := by
    intro i x hx j hj
    have h : (List.range ZS.es.length).all (fun i => match ZS.es[i]? with | some x => x.kids.all (fun j => decide (j < i)) | none => true) = true := by kernel_rfl
    have hi : i < ZS.es.length := by
      rcases Nat.lt_or_ge i ZS.es.length with h | h
      · exact h
      · rw [List.getElem?_eq_none h] at hx; cases hx
    have h2 := List.all_eq_true.mp h i (List.mem_range.mpr hi)
    simp only [hx] at h2
    exact of_decide_eq_true (List.all_eq_true.mp h2 j hj)
  row := Z8n _
  same := by kernel_rfl
  nl := fun cs h ox oy => rfl
theorem rtL : RT Zm0 Znp ZS dsX deX dtX where
  et := etL
  h57 := by kernel_rfl
  h85 := by kernel_rfl
  h172 := by kernel_rfl
  h125 := by kernel_rfl
  h121 := by kernel_rfl
  h171 := by kernel_rfl
  h78 := by kernel_rfl
  h111 := by kernel_rfl
  h159 := by kernel_rfl
  h122 := by kernel_rfl
  h11 := by kernel_rfl
  h229 := by kernel_rfl
  h16 := by kernel_rfl
  h123 := by kernel_rfl
  h178 := by kernel_rfl
  h227 := by kernel_rfl
  rowS := Z8m _
  rowT := Z8l _
  lenE := by decide
  ints := by
    intro t ht hk
    have h : ZS.ts.all (fun t => if t.k = 0 then decide (t.size = 1 ∨ t.size = 2 ∨ t.size = 3 ∨ t.size = 4 ∨ t.size = 8) else true) = true := by kernel_rfl
    have h2 := List.all_eq_true.mp h t ht
    rw [if_pos hk] at h2
    unfold Zax
    exact of_decide_eq_true h2
theorem rt2L : RT2 Zm0 Znp where
  h177 := by kernel_rfl
  h173 := by kernel_rfl
  h174 := by kernel_rfl
  h175 := by kernel_rfl
  h179 := by kernel_rfl
  h88 := by kernel_rfl
  h89 := by kernel_rfl
  h65 := by kernel_rfl
  h55 := by kernel_rfl
  h86 := by kernel_rfl
  h228 := by kernel_rfl
theorem rwL : RW Zm0 Znp ZS dsX deX dtX 1 where
  h26 := by kernel_rfl
  h9 := by kernel_rfl
  h56 := by kernel_rfl
  h25 := by kernel_rfl
  same := by kernel_rfl
  sameS := by kernel_rfl
  dD := by kernel_rfl
  i1 := fun a b h => rfl
  j1 := fun h => rfl
end Run
end
end Go.Abs
namespace Go.Abs
noncomputable section
namespace Run
variable {E : Env} {T : Nat → ZV}
set_option maxHeartbeats 4000000
set_option maxRecDepth 100000
variable {h : H} {Q : D → H → Prop} {R : ZM}
theorem Z8a {a n : Nat} : ∀ b ∈ Zcm a n,b < 256 := by
  intro b hb
  unfold Zcm at hb
  simp only [List.mem_append] at hb
  rcases hb with (((((hb | hb) | hb) | hb) | hb) | hb) | hb
  · revert b; decide
  · revert b; decide
  · revert b; decide
  · rcases hb with ((((hb | hb) | hb) | hb) | hb) | hb <;> exact Zva b hb
  · rcases hb with (((hb | hb) | hb) | hb) | hb <;> exact Zva b hb
  · exact Zva b hb
  · exact Zva b hb
theorem Z5l {sx : List (Nat × List Nat)} (hs : SOk sx) : ∀ b ∈ YM sx,b < 256 := by
  intro b hb
  unfold YM at hb
  simp only [List.mem_append] at hb
  rcases hb with (hb | hb) | hb
  · exact Z8a b hb
  · exact Zs7 hs.b b hb
  · exact Zwm b hb
theorem Z6j {sx : List (Nat × List Nat)} {ext : List Nat} (hs : SOk sx) (hx : ext.length ≤ 1) (hb : ∀ b ∈ ext,b < 256) {h : H} {Q : D → H → Prop} {R : ZM} (hq : ∀ h' a b c d,Rep (Zjv sx ext) [a,b,c,d] → h.next ≤ h'.next → (∀ x,x < h.next → hget h'.mem x = hget h.mem x) → Q (.tup [.agg [a,b,c,d],.int .i64 (.ofNat 0),.int .i64 (.ofNat 0)]) h') : VC Zm0 Znp 9 [Z5,.str (YM sx ++ ext)] h Q R := by
  obtain ⟨n,hr⟩ := Zvq (crc := fun _ => 0) hs hx
  have hd := Zfz hs.d
  have hn := hs.n
  rw [← Zrg]
  refine vc9 (crc := fun _ => 0) (f := (YM sx ++ ext).length + 11) rwL rtL rt2L Zzk ?_ ?_ ?_
  · intro b h1
    rcases List.mem_append.mp h1 with h1 | h1
    · exact Z5l hs b h1
    · exact hb b h1
  · rw [List.length_append,Zeh]; omega
  · rw [hr]
    exact fun h' a b c d h1 h2 h3 => hq h' a b c d h1 h2 fun x hx => h3 x hx (by omega)
end Run
end
end Go.Abs
namespace Go.Abs
noncomputable section
namespace Run
variable {E : Env} {T : Nat → ZV}
set_option maxHeartbeats 4000000
set_option maxRecDepth 100000
variable {h : H} {Q : D → H → Prop} {R : ZM}
theorem Zyg {l : List (Nat × List Nat)} (hk : ∀ s ∈ l,s.1 < 4294967296) (hb : ∀ s ∈ l,∀ b ∈ s.2,b < 256) : SOk (WK l) := by
  have hm : ∀ s ∈ WK l,∃ u ∈ l,s = (u.1,u.2.take 300) := by
    intro s hs
    obtain ⟨u,hu,rfl⟩ := List.mem_map.mp hs
    exact ⟨u,List.mem_of_mem_take hu,rfl⟩
  refine ⟨by rw [Zt2]; omega,fun s hs => ?_,fun s hs => ?_,fun s hs b h => ?_⟩
  · obtain ⟨u,hu,rfl⟩ := hm s hs
    exact hk u hu
  · obtain ⟨u,hu,rfl⟩ := hm s hs
    simp only [List.length_take]; omega
  · obtain ⟨u,hu,rfl⟩ := hm s hs
    exact hb u hu b (List.mem_of_mem_take h)
end Run
end
end Go.Abs
namespace Go.Abs
noncomputable section
namespace Run
variable {E : Env} {T : Nat → ZV}
set_option maxHeartbeats 4000000
set_option maxRecDepth 100000
attribute [local go_sem] Zc2 Ud Zc3 Ub Uj Ua Ug Zc1 Uf Ue Zc0 XJ Ul XG Uh WM XH Ym WN UY Un WL Ui Uk Um WO YN WQ Zam Wq Wp Uc Vw Vx Zc5 Zc6 Uo Ut Ur XL XK Yn Uq Up Zc4 WR Uv Us Uu WS Zar Zap Zas Zao Vz Zaq VA Zat Vy VB Zc7 Zau Zc9 Uw Zc8 Zir Zis Zip Ziq Zes Zet UG UF UH UJ UI UK Zdh Zdg V7 V8 V6 Zda VI VJ VH V4 UA XU V1 V3 XV XW UD UC UB XR YX Wg Uy Zdd Zez Zps X0 YZ VE Za8 XX V0 Y0 ZH X2 Ys WI patch Yq Yr YW YV Wc Wb Xj Xk XD V9 Wa X3 Yv YY XY Xt X1 Yp ZN Yt mem_cons Zdf Zdc YT Option.map_some Option.map_none V5 Wx Wz Wy Za9 VG Ww VF YO YP X9 X4 Xa Wd X5 X8 X6 Yw X7 WX XP WZ WU Uz WV WY WW XQ XO YG Wo WH Zgx Zcp Zcy Zbp Zdj Zq7 Xi Xz Va WB Yo YU Yu Y1 ZU YH ZW Xm List.drop_succ_cons List.drop_zero List.drop_nil List.take_succ_cons List.take_zero List.take_nil List.length_cons List.length_nil List.length_append List.cons_append List.nil_append Nat.reduceAdd Nat.reduceEqDiff Nat.reduceLeDiff Nat.reduceLT List.cons.injEq reduceCtorEq eq_self not_true_eq_false not_false_eq_true and_false false_and true_or or_true decide_true decide_false Bool.and_self Bool.and_true Bool.true_and Bool.true_or Bool.or_true Bool.false_or Bool.or_false Bool.false_and Bool.and_false Bool.not_true Bool.not_false cond_true cond_false true_and and_true Zah Zde Zdi reduceIte Nat.add_zero Nat.zero_add Nat.add_sub_cancel Nat.reduceMul Nat.reduceSub Nat.reduceBEq List.map_cons List.map_nil Z8 Z7 Y2 Zi Zb Z9 Ws Zeu Wk ZY ZL Wu Wt XN XM and_assoc exists_and_left D.str.injEq Nat.lt_irrefl Nat.not_lt_zero true_implies false_implies implies_true forall_const ge_iff_le gt_iff_lt Nat.sub_zero List.append_assoc Option.some.injEq AObj.cells.injEq D.int.injEq D.ptr.injEq Int.ofNat.injEq exists_eq_left' D.v.injEq Value.bool.injEq D.agg.injEq Nat.mul_one Zja Zp8
variable {h : H} {Q : D → H → Prop} {R : ZM}
def q86 : ZV := Zbg Zf (fun t h => .ok (Gt 6 t) h)
 (Z0 (Z1<|fo (Zh (kD (.v (.slice none 0 0)))) (St 6)<|Z2)
 (Z0 (Z1<|mM 0 7<|mK 119 [(Gt 7)] 8<|mM 1 9<|mM 2 10<|fo (YQ [(.str []),(.int .u64 (.ofNat 0))] [(0,1,(Gt 9)),(1,1,(Gt 10))]) (St 11)<|fo (Xu 217 1 [(.str []),(.int .u64 (.ofNat 0))] [(0,2,(Gt 11))]) (St 12)<|fo (u2 (Zbo 217 2 24) (Gt 8) (Gt 12)) (St 13)<|mM 13 6<|Z2)
 Zv))
def Z7s : ZV := Zbg Zf (fun t h => .ok (Gt 2 t) h)
 (Z0 (Z1<|fo (Zh (kD (.v (.slice none 0 0)))) (St 2)<|Z2)
 (Z0 (Z0 (Z1<|mM 0 3<|fo (Za YG .eql 161 (.tmp 3) (.const (.slice none 0 0)) (Gt 3) (kD (.v (.slice none 0 0)))) (St 4)<|Z2)
 (Zg (Gt 4) (Z0 (Z1<|fo (Zh (kD (.v (.slice none 0 0)))) (St 2)<|Z2)
 Zv) Zx))
 (Z0 (Z1<|fo (Xu 217 0 [] []) (St 5)<|mM 0 6<|fo (u2 (Zbo 217 2 24) (Gt 5) (Gt 6)) (St 7)<|mM 7 2<|Z2)
 Zv)))
theorem Zom : ∀ {k : Nat} {cs : List D},Zhn k cs = true → cs.length = k * 2 ∧ Y4 cs = true
  | 0,[],_ => ⟨rfl,rfl⟩
  | 0,_ :: _,h => by simp [Zhn] at h
  | k + 1,[],h => by simp [Zhn] at h
  | k + 1,.str s :: .int .u64 n :: r,h => by
    obtain ⟨h1,h2⟩ := Zom (k := k) (cs := r) h
    refine ⟨by rw [List.length_cons,List.length_cons,h1]; omega, ?_⟩
    rw [← h2]
    rfl
theorem vc119n (h119 : T 119 = Z7s) (i119 : ∀ h,Zha E YG .eql 161 (.tmp 3) (.const (.slice none 0 0)) (.v (.slice none 0 0)) (.v (.slice none 0 0)) h = .ok (.v (.bool true)) h) (hq : Q (.v (.slice none 0 0)) h) : VC E T 119 [.v (.slice none 0 0)] h Q R := by
  refine Zd h119 ?_
  unfold Zf
  repeat' (with_reducible (first | refine zc ?_ | simp (maxSteps := 2000000) (disch := first | exact zd | fail) only [go_sem, -Int.reduceOfNat, *] | (refine zb ?_ ?_ <;> intro _ <;> (try (exfalso; omega))) | (show Q _ _; exact hq) | exact ze | (intro _; intros) | (refine ⟨_,by assumption, ?_⟩) | refine And.intro ?_ ?_))
theorem oTip_0 {e size bytes k m : Nat} {ys : List D} {h : H} (h1 : m * bytes ≤ 140737488355328) (h2 : m ≤ 140737488355328) : Z0n (some (.tip 0 e)) e size bytes k 0 m [] ys h = .ok (.sl k m ys) (YF h k (.tip m e)) := by
  have := Zif (e := e) (size := size) (bytes := bytes) (k := k) (n := 0) (m := m) (cs := []) (ys := ys) (h := h) (by simp) (by simpa using h1) (by simpa using h2)
  simpa using this
theorem vc119s (h119 : T 119 = Z7s) {k : Nat} {cs : List D} (i119 : ∀ h,Zha E YG .eql 161 (.tmp 3) (.const (.slice none 0 0)) (.sl 0 k cs) (.v (.slice none 0 0)) h = .ok (.v (.bool false)) h) (hk : k ≤ 1000000) (hl : cs.length = k * 2) (ho : Y4 cs = true) (hq : ∀ h' id,hget h'.mem id = some (.tip k 217) → id < h'.next → Q (.sl id k cs) h') : VC E T 119 [.sl 0 k cs] h Q R := by
  rcases Nat.eq_zero_or_pos k with rfl | hp
  · have hc : cs = [] := List.eq_nil_of_length_eq_zero (by omega)
    subst hc
    refine Zd h119 ?_
    unfold Zf
    repeat' (with_reducible (first | refine zc ?_ | simp (maxSteps := 2000000) (disch := first | exact zd | fail) only [go_sem, -Int.reduceOfNat, *,Xt] | (refine zb ?_ ?_ <;> intro _ <;> (try (exfalso; omega))) | (show Q _ _; refine hq _ _ ?_ ?_) | exact ze | (intro _; intros) | (refine ⟨_,by assumption, ?_⟩) | refine And.intro ?_ ?_))
  · have hz : decide (k = 0) = false := decide_eq_false (by omega)
    refine Zd h119 ?_
    unfold Zf
    repeat' (with_reducible (first | refine zc ?_ | simp (maxSteps := 2000000) (disch := first | exact zd | fail) only [go_sem, -Int.reduceOfNat, *,oTip_0] | (refine zb ?_ ?_ <;> intro _ <;> (try (exfalso; omega))) | (show Q _ _; refine hq _ _ ?_ ?_) | exact ze | (intro _; intros) | (refine ⟨_,by assumption, ?_⟩) | refine And.intro ?_ ?_))
theorem vc86n (h119 : T 119 = Z7s) (h86 : T 86 = q86) (i119 : ∀ h,Zha E YG .eql 161 (.tmp 3) (.const (.slice none 0 0)) (.v (.slice none 0 0)) (.v (.slice none 0 0)) h = .ok (.v (.bool true)) h) {s : List Nat} {n : Int} (hq : ∀ h' id,Q (.sl id 1 [.str s,.int .u64 n]) h') : VC E T 86 [.v (.slice none 0 0),.str s,.int .u64 n] h Q R := by
  have ha : Y4 [.str s,.int .u64 n] = true := rfl
  refine Zd h86 ?_
  unfold Zf
  repeat' (with_reducible (first | refine zc ?_ | refine vc119n h119 (by assumption) ?_ | simp (maxSteps := 2000000) (disch := first | exact zd | fail) only [go_sem, -Int.reduceOfNat, *,Zhq] | (refine zb ?_ ?_ <;> intro _ <;> (try (exfalso; omega))) | (show Q _ _; refine hq _ _) | exact ze | (intro _; intros) | (refine ⟨_,by assumption, ?_⟩) | refine And.intro ?_ ?_))
theorem vc86s (h119 : T 119 = Z7s) (h86 : T 86 = q86) {k : Nat} {cs : List D} (i119 : ∀ h,Zha E YG .eql 161 (.tmp 3) (.const (.slice none 0 0)) (.sl 0 k cs) (.v (.slice none 0 0)) h = .ok (.v (.bool false)) h) (hk : k ≤ 1000000) (hl : cs.length = k * 2) (ho : Y4 cs = true) {s : List Nat} {n : Int} (hq : ∀ h' id,Q (.sl id (k + 1) (cs ++ [.str s,.int .u64 n])) h') : VC E T 86 [.sl 0 k cs,.str s,.int .u64 n] h Q R := by
  have ha : Y4 [.str s,.int .u64 n] = true := rfl
  refine Zd h86 ?_
  unfold Zf
  repeat' (with_reducible (first | refine zc ?_ | refine vc119s h119 (by assumption) (by assumption) (by assumption) (by assumption) ?_ | simp (maxSteps := 2000000) (disch := first | exact zd | fail) only [go_sem, -Int.reduceOfNat, *,Zif] | (refine zb ?_ ?_ <;> intro _ <;> (try (exfalso; omega))) | (intro h2 id2 f1 f2) | (show Q _ _; refine hq _ _) | exact ze | (intro _; intros) | (refine ⟨_,by assumption, ?_⟩) | refine And.intro ?_ ?_))
end Run
end
end Go.Abs
namespace Go.Abs
noncomputable section
namespace Run
open Go.Proofs Go.RowKit
theorem Z6t (s : ByteArray) : (ZE s).reverse = ZE ⟨s.data.reverse⟩ := by simp [ZE]
theorem Zyj (s : List UInt8) : ∀ c,Z3g (s.map (·.toNat)) c = (Lib.repeatL s c).map (·.toNat)
  | 0 => rfl
  | c + 1 => by simp only [Z3g,Lib.repeatL,List.map_append,Zyj s c]
theorem Zsk (c : UInt8) : ∀ l : List UInt8,Zlo c.toNat (l.map (·.toNat)) = (l.dropWhile (· == c)).map (·.toNat)
  | [] => rfl
  | b :: r => by
    have ih := Zsk c r
    by_cases h : b = c
    · subst h
      simp [Zlo,ih]
    · have h1 : Nat.beq b.toNat c.toNat = false := by
        cases hb : Nat.beq b.toNat c.toNat with
        | false => rfl
        | true => exact absurd (UInt8.toNat_inj.1 (Nat.eq_of_beq_eq_true hb)) h
      simp [Zlo,h1,h]
theorem Z6o (s : ByteArray) (c : UInt8) : Zlo c.toNat (Zlo c.toNat (ZE s).reverse).reverse = ZE ⟨(Lib.trimB s.data.toList c).toArray⟩ := by
  simp only [ZE,Lib.trimB,Lib.trimLeftB,Lib.trimRightB]
  rw [← List.map_reverse,Zsk,← List.map_reverse,Zsk]
theorem Zki {ds : List D} {h h' : H} {p : Bool} {d : D} (ho : Zdu ds h = .mk p d h') : p = false ∧ h' = h ∧ ∃ s,ds = [.str s] ∧ d = .str s.reverse ∧ s.length ≤ 9223372036854775807 := by
  unfold Zdu at ho
  split at ho
  · rename_i s
    cases hq : Nat.ble s.length 9223372036854775807 with
    | false => rw [hq] at ho; cases p <;> cases ho
    | true =>
      rw [hq] at ho
      cases p with
      | true => cases ho
      | false => cases ho; exact ⟨rfl,rfl,s,rfl,rfl,Nat.le_of_ble_eq_true hq⟩
  · cases p <;> cases ho
theorem sim227 : Zp Tryz.prog 227 Zdu glob := Zf5 (enters_of Tryz.func227 (by kernel_rfl) rfl) fun ds h p d h' ho => by
  obtain ⟨h1,h2,s,rfl,rfl,h3⟩ := Zki ho
  refine ⟨h1,h2,fun g args hargs w => ?_⟩
  obtain ⟨v1,rfl,r1⟩ := hargs.one'
  obtain ⟨b,rfl,rfl⟩ := r1.str'
  refine ⟨_, ?_,TurnX.turn_any b w (by simpa [ZE] using h3)⟩
  rw [Z6t]
  exact .str _
theorem Zhs {ds : List D} {h h' : H} {p : Bool} {d : D} (ho : U8 ds h = .mk p d h') : p = false ∧ h' = h ∧ ∃ s k c,ds = [.str s,.int k (.ofNat c)] ∧ k = .i64 ∧ d = .str (Z3g s c) ∧ s.length * c ≤ 140737488355328 ∧ c ≤ 9223372036854775807 := by
  unfold U8 at ho
  split at ho
  · rename_i s c
    cases hq : Nat.ble (s.length * c) 140737488355328 && Nat.ble c 9223372036854775807 with
    | false => rw [hq] at ho; cases p <;> cases ho
    | true =>
      rw [hq] at ho
      simp only [Bool.and_eq_true] at hq
      cases p with
      | true => cases ho
      | false => cases ho; exact ⟨rfl,rfl,s,_,c,rfl,rfl,rfl,Nat.le_of_ble_eq_true hq.1,Nat.le_of_ble_eq_true hq.2⟩
  · cases p <;> cases ho
theorem sim50 : Zp Tryz.prog 50 U8 glob := Zf5 (enters_of Tryz.func50 (by kernel_rfl) rfl) fun ds h p d h' ho => by
  obtain ⟨h1,h2,s,k,c,rfl,rfl,rfl,h3,h4⟩ := Zhs ho
  refine ⟨h1,h2,fun g args hargs w => ?_⟩
  obtain ⟨v1,v2,rfl,r1,r2⟩ := hargs.two'
  obtain ⟨b,rfl,rfl⟩ := r1.str'
  rw [r2.int']
  refine ⟨_, ?_,Tryz.strings_Repeat b c w h4 (by simpa [ZE] using h3)⟩
  have := Zyj b.data.toList c
  simp only [ZE]
  rw [this]
  exact .str ⟨(Lib.repeatL b.data.toList c).toArray⟩
theorem Zi4 {ds : List D} {h h' : H} {p : Bool} {d : D} (ho : Zcj ds h = .mk p d h') : p = false ∧ h' = h ∧ ∃ s c,ds = [.str s,.str [c]] ∧ d = .str (Zlo c (Zlo c s.reverse).reverse) ∧ s.length ≤ 9223372036854775807 ∧ c < 128 := by
  unfold Zcj at ho
  split at ho
  · rename_i s c
    cases hq : Nat.ble s.length 9223372036854775807 && Nat.blt c 128 with
    | false => rw [hq] at ho; cases p <;> cases ho
    | true =>
      rw [hq] at ho
      simp only [Bool.and_eq_true] at hq
      cases p with
      | true => cases ho
      | false => cases ho; exact ⟨rfl,rfl,s,c,rfl,rfl,Nat.le_of_ble_eq_true hq.1,Nat.le_of_ble_eq_true hq.2⟩
  · cases p <;> cases ho
theorem sim228 : Zp Tryz.prog 228 Zcj glob := Zf5 (enters_of Tryz.func228 (by kernel_rfl) rfl) fun ds h p d h' ho => by
  obtain ⟨h1,h2,s,c,rfl,rfl,h3,h4⟩ := Zi4 ho
  refine ⟨h1,h2,fun g args hargs w => ?_⟩
  obtain ⟨v1,v2,rfl,r1,r2⟩ := hargs.two'
  obtain ⟨b,rfl,rfl⟩ := r1.str'
  obtain ⟨u,rfl,hu⟩ := r2.str'
  obtain ⟨x,hx,rfl⟩ : ∃ x : UInt8,u = ⟨#[x]⟩ ∧ c = x.toNat := by
    obtain ⟨⟨l⟩⟩ := u
    rcases l with _ | ⟨x,_ | ⟨y,l⟩⟩
    · simp [ZE] at hu
    · exact ⟨x,rfl,by simpa [ZE] using hu⟩
    · simp [ZE] at hu
  subst hx
  refine ⟨_, ?_,(Tryz.strings_Trim_one b x h4 w (by simpa [ZE] using h3)).mono fun e w' ⟨e1,e2⟩ => ⟨e1, ?_⟩⟩
  · rw [Z6o]
    exact .str _
  · rcases e2 with rfl | rfl
    · exact Below.refl _ _
    · exact Below.drew (Below.refl _ _)
theorem Zsr : ∀ ds h,Xv h (Zdu ds h) := VZ fun ds h p d h' ho => (Zki ho).2.1
theorem Zov : ∀ ds h,Xv h (U8 ds h) := VZ fun ds h p d h' ho => (Zhs ho).2.1
theorem Zpz : ∀ ds h,Xv h (Zcj ds h) := VZ fun ds h p d h' ho => (Zi4 ho).2.1
end Run
end
end Go.Abs
namespace Go.Abs
noncomputable section
namespace Run
variable {E : Env} {T : Nat → ZV}
set_option maxHeartbeats 4000000
set_option maxRecDepth 100000
variable {h : H} {Q : D → H → Prop} {R : ZM}
open Go.Proofs Go.RowKit
theorem Wi {f : D → Option D} {d t : D} {r l : List D} (h1 : f d = some t) (h2 : Yg f r = some l) : Yg f (d :: r) = some (t :: l) := by
  simp only [Yg,h1,h2]
theorem Zqx {P : Program} {h : H} : ∀ {k : Nat} {cs : List D},Zhn k cs = true → Yg (Zj P h 1) cs = some cs
  | 0,[],_ => rfl
  | 0,_ :: _,h => by simp [Zhn] at h
  | k + 1,[],h => by simp [Zhn] at h
  | k + 1,.str s :: .int .u64 n :: r,h => by
    have ih := Zqx (P := P) (h := ‹H›) (k := k) (cs := r) h
    exact Wi rfl (Wi rfl ih)
theorem Zqy : ∀ {k : Nat} {cs : List D} {s : List Nat} {n : Int},Zhn k cs = true → Zhn (k + 1) (cs ++ [.str s,.int .u64 n]) = true
  | 0,[],_,_,_ => rfl
  | 0,_ :: _,_,_,h => by simp [Zhn] at h
  | k + 1,[],_,_,h => by simp [Zhn] at h
  | k + 1,.str s :: .int .u64 n :: r,s',n',h => Zqy (k := k) (cs := r) (s := s') (n := n') h
theorem Zr3 {P : Program} {h : H} {id k : Nat} {cs : List D} (ho : Zhn k cs = true) : Zj P h 2 (.sl id k cs) = some (.sl 0 k cs) := by
  show (match Yg (Zj P h 1) cs with
    | some ts => some (D.sl 0 k ts)
    | none => none) = _
  rw [Zqx ho]
theorem Zml {ds : List D} {h h' : H} {p : Bool} {d : D} (ho : Zdt ds h = .mk p d h') : p = false ∧ h' = h ∧ ∃ s n,(ds = [.v (.slice none 0 0),.str s,.int .u64 n] ∧ d = .sl 0 1 [.str s,.int .u64 n]) ∨ ∃ k cs,ds = [.sl 0 k cs,.str s,.int .u64 n] ∧ d = .sl 0 (k + 1) (cs ++ [.str s,.int .u64 n]) ∧ k ≤ 1000000 ∧ Zhn k cs = true := by
  unfold Zdt at ho
  split at ho
  · rename_i s n
    cases p with
    | true => cases ho
    | false => cases ho; exact ⟨rfl,rfl,s,n,Or.inl ⟨rfl,rfl⟩⟩
  · rename_i k cs s n
    cases hq : Nat.ble k 1000000 && Zhn k cs with
    | false => rw [hq] at ho; cases p <;> cases ho
    | true =>
      rw [hq] at ho
      simp only [Bool.and_eq_true] at hq
      cases p with
      | true => cases ho
      | false => cases ho; exact ⟨rfl,rfl,s,n,Or.inr ⟨k,cs,rfl,rfl,Nat.le_of_ble_eq_true hq.1,hq.2⟩⟩
  · cases p <;> cases ho
theorem Zsq : ∀ ds h,Xv h (Zdt ds h) := VZ fun ds h p d h' ho => (Zml ho).2.1
theorem Zyc {E : Env} {T : Nat → ZV} {f : Nat} {ds : List D} {h : H} {Q : D → H → Prop} (hc : VC E T f ds h Q Zd8) : WC E T f ds h Q := by
  obtain ⟨o,he,ho⟩ := hc
  cases o with
  | ok d h' => exact ⟨d,h',he,ho⟩
  | panic d h' => exact ho.elim
  | fail w => exact ho.elim
theorem sim86 : Zp Tryz.prog 86 Zdt glob := by
  have hent := fun args w => enters_of (args := args) (w := w) Tryz.func86 (by kernel_rfl) rfl
  refine Ze0 Zfs hent fun ds h p d h' ho => ?_
  obtain ⟨rfl,rfl,s,n,hc⟩ := Zml ho
  have hwc : WC env0 (Zqd Zi3 TA) 86 ds UM (fun d' h' => Zj Tryz.prog h' 2 d' = some d) := by
    rcases hc with ⟨rfl,rfl⟩ | ⟨k,cs,rfl,rfl,hk,hok⟩
    · exact Zyc (vc86n (by kernel_rfl) (by kernel_rfl) (fun h => rfl) fun h' id => Zr3 rfl)
    · obtain ⟨hl,h1⟩ := Zom hok
      exact Zyc (vc86s (by kernel_rfl) (by kernel_rfl) (fun h => rfl) hk hl h1 fun h' id => Zr3 (Zqy hok))
  refine ⟨rfl,rfl, ?_,fun w T args ok hgl hargs => ?_⟩
  · have hs : ∀ s : List Nat,Ziv (.str s) := fun s => ⟨1,fun P h => rfl⟩
    have hn : ∀ n : Int,Ziv (.int .u64 n) := fun n => ⟨1,fun P h => rfl⟩
    rcases hc with ⟨rfl,rfl⟩ | ⟨k,cs,rfl,rfl,hk,hok⟩
    · intro x hx
      simp only [List.mem_cons,List.not_mem_nil,or_false] at hx
      rcases hx with rfl | rfl | rfl
      · exact ⟨1,fun P h => rfl⟩
      · exact hs _
      · exact hn _
    · intro x hx
      simp only [List.mem_cons,List.not_mem_nil,or_false] at hx
      rcases hx with rfl | rfl | rfl
      · exact ⟨2,fun P h => Zr3 hok⟩
      · exact hs _
      · exact hn _
  · refine (Zno Z2b (Zfk Zrr Zi3) ok hgl hwc hargs hent).mono ?_
    rintro e w' ⟨d',h',v,T',hq,rfl,hok,_,hold,hbel,hrel⟩
    exact ⟨v,T',rfl,hok,hold,hbel,hrel 2 d hq⟩
theorem Zaw {libs : Nat → Option (List D → H → O D)} (ht : Told Tryz.prog glob (Zfw Tryz.prog glob libs)) {k : Nat} {lf : List D → H → O D} (hs : Zp Tryz.prog k lf glob) (hg : ∀ ds h,Xv h (lf ds h)) : Told Tryz.prog glob (Zfw Tryz.prog glob fun f => bq (Nat.beq f k) (some lf) (libs f)) := by
  refine told Tryz.prog glob _ Zvi (fun f lf h => ?_) (fun f lf h => ?_)
  all_goals (rw [Z5z] at h)
  · rcases Y6 h with ⟨hf,rfl⟩ | h
    · rw [Nat.eq_of_beq_eq_true hf]; exact hs
    · exact ht.lib f lf h
  · rcases Y6 h with ⟨hf,rfl⟩ | h
    · exact hg
    · exact ht.libgrow f lf h
theorem told1 : Told Tryz.prog glob (Zfw Tryz.prog glob libs1) := Zaw (Zaw (Zaw (Zaw Z2b sim86 Zsq) sim228 Zpz) sim227 Zsr) sim50 Zov
end Run
end
end Go.Abs
