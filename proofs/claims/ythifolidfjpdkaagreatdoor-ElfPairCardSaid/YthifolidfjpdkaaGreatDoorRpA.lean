/- plain.Read by elf, given by hand. -/
import Derived.Test.YthifolidfjpdkaaGreatDoorRgL
set_option linter.unusedVariables false
set_option linter.unusedSimpArgs false
namespace Go.Abs
noncomputable section
namespace Run
variable {E : Env} {T : Nat → ZV}
set_option maxHeartbeats 4000000
set_option maxRecDepth 100000
attribute [local go_sem] Zc2 Ud Zc3 Ub Uj Ua Ug Zc1 Uf Ue Zc0 XJ Ul XG Uh WM XH Ym WN UY Un WL Ui Uk Um WO YN WQ Zam Wq Wp Uc Vw Vx Zc5 Zc6 Uo Ut Ur XL XK Yn Uq Up Zc4 WR Uv Us Uu WS Zar Zap Zas Zao Vz Zaq VA Zat Vy VB Zc7 Zau Zc9 Uw Zc8 Zir Zis Zip Ziq Zes Zet UG UF UH UJ UI UK Zdh Zdg V7 V8 V6 Zda VI VJ VH V4 UA XU V1 V3 XV XW UD UC UB XR YX Wg Uy Zdd Zez Zps X0 YZ VE Za8 XX V0 Y0 ZH X2 Ys WI patch Yq Yr YW YV Wc Wb Xj Xk XD V9 Wa X3 Yv YY XY Xt X1 Yp ZN Yt mem_cons Zdf Zdc YT Option.map_some Option.map_none V5 Wx Wz Wy Za9 VG Ww VF YO YP X9 X4 Xa Wd X5 X8 X6 Yw X7 WX XP WZ WU Uz WV WY WW XQ XO YG Wo WH Zgx Zcp Zcy Zbp Zdj Zq7 Xi Xz Va WB Yo YU Yu Y1 ZU YH ZW Xm List.drop_succ_cons List.drop_zero List.drop_nil List.take_succ_cons List.take_zero List.take_nil List.length_cons List.length_nil List.length_append List.cons_append List.nil_append Nat.reduceAdd Nat.reduceEqDiff Nat.reduceLeDiff Nat.reduceLT List.cons.injEq reduceCtorEq eq_self not_true_eq_false not_false_eq_true and_false false_and true_or or_true decide_true decide_false Bool.and_self Bool.and_true Bool.true_and Bool.true_or Bool.or_true Bool.false_or Bool.or_false Bool.false_and Bool.and_false Bool.not_true Bool.not_false cond_true cond_false true_and and_true Zah Zde Zdi reduceIte Nat.add_zero Nat.zero_add Nat.add_sub_cancel Nat.reduceMul Nat.reduceSub Nat.reduceBEq List.map_cons List.map_nil Z8 Z7 Y2 Zi Zb Z9 Ws Zeu Wk ZY ZL Wu Wt XN XM and_assoc exists_and_left D.str.injEq Nat.lt_irrefl Nat.not_lt_zero true_implies false_implies implies_true forall_const ge_iff_le gt_iff_lt Nat.sub_zero List.append_assoc Option.some.injEq AObj.cells.injEq D.int.injEq D.ptr.injEq Int.ofNat.injEq exists_eq_left' D.v.injEq Value.bool.injEq D.agg.injEq Nat.mul_one Zja Zp8
section
variable {h : H} {Q : D → H → Prop} {R : ZM}
open Go.Proofs Go.RowKit
mutual
def Zep : V → List D
  | .mk k n b l => [.int .i64 (.ofNat k),.int .u64 (.ofNat n),.str b,Zpe l]
def Zpe : List V → D
  | [] => .v (.slice none 0 0)
  | x :: r => .sl 0 (r.length + 1) (Zep x ++ Zkp r)
def Zkp : List V → List D
  | [] => []
  | x :: r => Zep x ++ Zkp r
end
theorem Z1b : ∀ v,(Zep v).length = 4
  | .mk k n b l => by rw [Zep]; rfl
theorem Zok {f : D → Option D} : ∀ {a x b y : List D},Yg f a = some x → Yg f b = some y → Yg f (a ++ b) = some (x ++ y)
  | [],x,b,y,h1,h2 => by cases h1; exact h2
  | d :: r,x,b,y,h1,h2 => by
    unfold Yg at h1
    split at h1
    · rename_i t l ht hl
      cases h1
      exact Wi ht (Zok hl h2)
    · cases h1
theorem Zvo {Q : V → List D → Prop} (hQ : ∀ v c,Q v c → ∃ k,∀ P h,Yg (Zj P h k) c = some (Zep v)) : ∀ (l : List V) (cs : List (List D)),cs.length = l.length → (∀ (i : Nat) (v : V) (c : List D),l[i]? = some v → cs[i]? = some c → Q v c) → ∃ k,∀ P h,Yg (Zj P h k) cs.flatten = some (Zkp l)
  | [],[],_,_ => ⟨0,fun P h => by rw [Zkp]; rfl⟩
  | [],_ :: _,hl,_ => by simp at hl
  | _ :: _,[],hl,_ => by simp at hl
  | v :: l,c :: cs,hl,h => by
    obtain ⟨k1,h1⟩ := hQ v c (h 0 v c rfl rfl)
    obtain ⟨k2,h2⟩ := Zvo hQ l cs (by simpa using hl) fun i v c e1 e2 => h (i + 1) v c (by simpa using e1) (by simpa using e2)
    refine ⟨max k1 k2,fun P hh => ?_⟩
    rw [List.flatten_cons,Zkp]
    exact Zok (Vn (fun d t hd => Zfj hd (Nat.le_max_left k1 k2)) (h1 P hh)) (Vn (fun d t hd => Zfj hd (Nat.le_max_right k1 k2)) (h2 P hh))
theorem Z7m {v : V} {c : List D} (hr : Rep v c) : ∃ k,∀ P h,Yg (Zj P h k) c = some (Zep v) := by
  induction hr with
  | @mk k n b l L cs hb hn h4 hr hL ih =>
    have hcell : ∃ m,∀ P h,Zj P h m L = some (Zpe l) := by
      rcases hL with ⟨rfl,rfl⟩ | ⟨id,rfl,hne⟩
      · exact ⟨1,fun P h => by rw [Zpe]; rfl⟩
      · obtain ⟨m,hm⟩ := Zvo (Q := fun v c => ∃ k,∀ P h,Yg (Zj P h k) c = some (Zep v)) (fun v c h => h) l cs hn ih
        refine ⟨m + 1,fun P h => ?_⟩
        show (match Yg (Zj P h m) cs.flatten with
          | some ts => some (D.sl 0 cs.length ts)
          | none => none) = _
        rw [hm,hn]
        cases l with
        | nil => exact absurd rfl hne
        | cons x r => rw [Zkp,Zpe]; rfl
    obtain ⟨m,hm⟩ := hcell
    refine ⟨m + 1,fun P h => ?_⟩
    rw [Zep]
    exact Wi rfl (Wi rfl (Wi rfl (Wi (Zfj (hm P h) (Nat.le_succ m)) rfl)))
theorem Z7n {v : V} {c : List D} (hr : Rep v c) : Rep v (Zep v) := by
  induction hr with
  | @mk k n b l L cs hb hn h4 hr hL ih =>
    rw [Zep]
    refine Rep.of hb ⟨l.map Zep,⟨List.length_map ..,fun i v c e1 e2 => ?_⟩,fun c hc => ?_, ?_⟩
    · rw [List.getElem?_map,e1] at e2
      cases e2
      have hi : i < cs.length := by rw [hn]; exact (List.getElem?_eq_some_iff.1 e1).1
      exact ih i v _ e1 (List.getElem?_eq_getElem hi)
    · obtain ⟨v,_,rfl⟩ := List.mem_map.1 hc
      exact Z1b v
    · cases l with
      | nil => exact Or.inl ⟨rfl,by rw [Zpe]⟩
      | cons x r =>
        refine Or.inr ⟨0, ?_,by simp⟩
        have : ∀ r : List V,(r.map Zep).flatten = Zkp r := fun r => by
          induction r with
          | nil => rw [Zkp]; rfl
          | cons y s ih => rw [Zkp,List.map_cons,List.flatten_cons,ih]
        rw [Zpe,List.length_map,List.map_cons,List.flatten_cons,this]
        rfl
def Zp2 : List D → H → O D := fun ds h => match ds with
  | [f,.str s] => bif D.same f Z5 && Nat.ble s.length 1000000 && s.all (fun b => Nat.blt b 256) then (match Zj5 ZS (fun _ => 0) s (s.length + 11) 1 with
    | .ok v _ _ => .ok (.tup [.agg (Zep v),.int .i64 (.ofNat 0),.int .i64 (.ofNat 0)]) h
    | _ => .fail "read") else .fail "read"
  | _ => .fail "read"
theorem Zu9 {ds : List D} {h h' : H} {p : Bool} {d : D} (ho : Zp2 ds h = .mk p d h') : p = false ∧ h' = h ∧ ∃ s v q n,ds = [Z5,.str s] ∧ d = .tup [.agg (Zep v),.int .i64 (.ofNat 0),.int .i64 (.ofNat 0)] ∧ s.length ≤ 1000000 ∧ (∀ b ∈ s,b < 256) ∧ Zj5 ZS (fun _ => 0) s (s.length + 11) 1 = .ok v q n := by
  unfold Zp2 at ho
  split at ho
  · rename_i f s
    cases hq : D.same f Z5 && Nat.ble s.length 1000000 && s.all (fun b => Nat.blt b 256) with
    | false => rw [hq] at ho; cases p <;> cases ho
    | true =>
      rw [hq] at ho
      simp only [Bool.and_eq_true] at hq
      obtain ⟨⟨h1,h2⟩,h3⟩ := hq
      have e := Zga h1
      subst e
      have h4 : ∀ b ∈ s,b < 256 := fun b hb => Nat.le_of_ble_eq_true (List.all_eq_true.1 h3 b hb)
      simp only [cond_true] at ho
      split at ho
      · rename_i v q n hr
        cases p with
        | true => cases ho
        | false => cases ho; exact ⟨rfl,rfl,s,v,q,n,rfl,rfl,Nat.le_of_ble_eq_true h2,h4,hr⟩
      · cases p <;> cases ho
  · cases p <;> cases ho
theorem Z0x : ∀ ds h,Xv h (Zp2 ds h) := VZ fun ds h p d h' ho => (Zu9 ho).2.1
theorem Zp3 : Ziv Z5 := Zaf (P := Tryz.prog) (k := 40) (ds := [Z5]) (by as_aux_lemma => kernel_rfl) _ (List.mem_singleton.2 rfl)
theorem sim9 : Zp Tryz.prog 9 Zp2 glob := by
  have hent := fun args w => enters_of (args := args) (w := w) Tryz.func9 (by kernel_rfl) rfl
  refine Ze0 Zfs hent fun ds h p d h' ho => ?_
  obtain ⟨rfl,rfl,s,v,q,n,rfl,rfl,hs,hb,hr⟩ := Zu9 ho
  have hwc : WC Zm0 Znp 9 [Z5,.str s] UM (fun d' h' => ∃ k,Zj Tryz.prog h' k d' = some (.tup [.agg (Zep v),.int .i64 (.ofNat 0),.int .i64 (.ofNat 0)])) := by
    refine Zyc ?_
    rw [← Zrg]
    refine vc9 (crc := fun _ => 0) (f := s.length + 11) rwL rtL rt2L Zzk hb hs ?_
    rw [hr]
    intro h' a b c d h1 h2 h3
    obtain ⟨k,hk⟩ := Z7m h1
    refine ⟨k + 2, ?_⟩
    have e1 : Zj Tryz.prog h' (k + 1) (.agg [a,b,c,d]) = some (.agg (Zep v)) := by
      show (match Yg (Zj Tryz.prog h' k) [a,b,c,d] with
        | some ts => some (D.agg ts)
        | none => none) = _
      rw [hk]
    show (match Yg (Zj Tryz.prog h' (k + 1)) [.agg [a,b,c,d],.int .i64 (.ofNat 0),.int .i64 (.ofNat 0)] with
      | some ts => some (D.tup ts)
      | none => none) = _
    rw [Wi e1 (Wi rfl (Wi rfl rfl))]
  refine ⟨rfl,rfl, ?_,fun w T args ok hgl hargs => ?_⟩
  · intro x hx
    simp only [List.mem_cons,List.not_mem_nil,or_false] at hx
    rcases hx with rfl | rfl
    · exact Zp3
    · exact ⟨1,fun P h => rfl⟩
  · refine (Zno toldL (Zfk Zrr Z4j) ok hgl hwc hargs hent).mono ?_
    rintro e w' ⟨d',h',v,T',⟨k,hq⟩,rfl,hok,_,hold,hbel,hrel⟩
    exact ⟨v,T',rfl,hok,hold,hbel,hrel k _ hq⟩
theorem Z6i {E : Env} {T : Nat → ZV} (h9 : T 9 = YK Zp2) {sx : List (Nat × List Nat)} {ext : List Nat} (hs : SOk sx) (hx : ext.length ≤ 1) (hb : ∀ b ∈ ext,b < 256) {h : H} {Q : D → H → Prop} {R : ZM} (hf : D.same Z5 Z5 = true) (hq : Q (.tup [.agg (Zep (Zjv sx ext)),.int .i64 (.ofNat 0),.int .i64 (.ofNat 0)]) h) : VC E T 9 [Z5,.str (YM sx ++ ext)] h Q R := Zbr h9 (by
  obtain ⟨n,hr⟩ := Zvq (crc := fun _ => 0) hs hx
  have hd := Zfz hs.d
  have hn := hs.n
  have hl : Nat.ble (YM sx ++ ext).length 1000000 = true := Nat.ble_eq_true_of_le (by rw [List.length_append,Zeh]; omega)
  have ha : (YM sx ++ ext).all (fun b => Nat.blt b 256) = true := List.all_eq_true.2 fun b h1 => by
    rcases List.mem_append.mp h1 with h1 | h1
    · exact Nat.ble_eq_true_of_le (Z5l hs b h1)
    · exact Nat.ble_eq_true_of_le (hb b h1)
  unfold Zp2
  simp only [hf,hl,ha,Bool.and_self,cond_true,hr]
  exact hq)
theorem Z5i {sx : List (Nat × List Nat)} {ext : List Nat} (hs : SOk sx) (hx : ext.length ≤ 1) (hb : ∀ b ∈ ext,b < 256) : Rep (Zjv sx ext) (Zep (Zjv sx ext)) := by
  obtain ⟨o,_,ho⟩ : VC Zm0 Znp 9 [Z5,.str (YM sx ++ ext)] UM (fun _ _ => ∃ c,Rep (Zjv sx ext) c) Zd8 := Z6j hs hx hb fun h' a b c d hr _ _ => ⟨_,hr⟩
  cases o with
  | ok d h' => obtain ⟨c,hc⟩ := ho; exact Z7n hc
  | panic d h' => exact ho.elim
  | fail w => exact ho.elim
end
section
variable {h : H} {Q : D → H → Prop} {R : ZM}
section
variable {d m : Nat} {v : V} {c : List D}
def Zi5 : V → Prop
  | .mk k n b l => (k = 0 ∧ n = 0 ∧ b = [] ∧ l = []) ∨ (k = 1 ∧ b = [] ∧ l = []) ∨ (k = 2 ∧ n = 0 ∧ l = []) ∨ (k = 3 ∧ n = 0 ∧ b = []) ∨ (k = 4 ∧ n = 0 ∧ b = [])
def Zpy : Nat → V → Prop
  | 0,_ => False
  | d + 1,v => Zi5 v ∧ ∀ x ∈ v.l,Zpy d x
def Vs : Nat → V → Nat
  | 0,_ => 0
  | d + 1,v => 1 + (v.l.map (Vs d)).sum
theorem Zzn (h : Zpy d v) : 1 ≤ Vs d v := by
  cases d with
  | zero => exact h.elim
  | succ d => unfold Vs; omega
theorem Ztu : ∀ {l : List V} {i : Nat} {x : V},l[i]? = some x → ((l.take (i + 1)).map (Vs d)).sum = ((l.take i).map (Vs d)).sum + Vs d x
  | [],i,x,h => by simp at h
  | y :: r,0,x,h => by cases h; simp
  | y :: r,i + 1,x,h => by
    have ih := Ztu (l := r) (i := i) (x := x) (by simpa using h)
    simp only [List.take_succ_cons,List.map_cons,List.sum_cons,ih]
    omega
theorem Z2g : ∀ {l : List V} {i : Nat},((l.take i).map (Vs d)).sum ≤ (l.map (Vs d)).sum
  | [],i => by simp
  | y :: r,0 => by simp
  | y :: r,i + 1 => by
    have ih := Z2g (l := r) (i := i)
    simp only [List.take_succ_cons,List.map_cons,List.sum_cons]
    omega
theorem Z4l (h98 : T 98 = q98) {k n : Nat} {b : List Nat} {l : List V} {L : D} (hv : Zi5 (.mk k n b l)) (hL : Zaj Rep 4 L l) (h1 : L.one = true) (hq : ∀ h',h.next ≤ h'.next → (∀ l,l < h.next → hget h'.mem l = hget h.mem l) → Q (.v (.bool true)) h') : VC E T 98 [.agg [.int .i64 (.ofNat k),.int .u64 (.ofNat n),.str b,L]] h Q R := by
  have hlen := Zia hL
  rcases hv with ⟨rfl,rfl,rfl,rfl⟩ | ⟨rfl,rfl,rfl⟩ | ⟨rfl,rfl,rfl⟩ | ⟨rfl,rfl,rfl⟩ | ⟨rfl,rfl,rfl⟩
  all_goals
    clear hL
    refine Zd h98 ?_
    unfold Zf
    repeat' (with_reducible (first | refine Yc ?_ | refine Yd ?_ | refine Xo ?_ | refine Xn ?_ | refine Yf ?_ | refine ZQ ?_ | refine Ye ?_ | refine Xp ?_ | refine Vl ?_ | refine Vc ?_ | refine U0 ?_ | simp (maxSteps := 2000000) (disch := first | assumption | omega | (simp only [Z8,Z7,List.length_cons,List.length_nil,List.length_append,List.length_take,List.length_drop]; omega) | fail) only [go_sem, -Int.reduceOfNat, *] | ((first | refine Zbt ?_ ?_ | refine U3 ?_ ?_ | refine Zbs ?_ ?_ | refine U1 ?_ ?_ | refine U2 ?_ ?_ | refine Vd ?_ ?_) <;> intro _ <;> (try (exfalso; omega))) | (intro h2 f1 f2) | (show Q _ _; refine hq _ ?_ ?_) | assumption | exact trivial | (show _ < _; omega) | (show _ ≤ _; omega) | (show ¬ (_ : Nat) = _; omega) | (show (_ : Nat) ≠ _; omega) | (show (_ : Nat) = _; omega) | (intro _; intros) | (refine ⟨_,by assumption, ?_⟩) | refine And.intro ?_ ?_))
abbrev IC (h0 : H) (L : D) (l : List V) (d m n : Nat) (t1 : Tr D) (h1 : H) : Prop :=
  h0.next ≤ h1.next ∧ (∀ x,x < h0.next → hget h1.mem x = hget h0.mem x) ∧ Gt 17 t1 = L ∧ Gt 18 t1 = .int .i64 (.ofNat l.length) ∧ Gt 1 t1 = .int .i64 (.ofNat (m + 1)) ∧ ∃ i,Gt 19 t1 = .int .i64 (.ofNat i) ∧ i + n = l.length ∧ Gt 5 t1 = .int .i64 (.ofNat (1 + ((l.take i).map (Vs d)).sum))
def CN (E : Env) (T : Nat → ZV) (d : Nat) : Prop := ∀ {v : V} {c : List D} {m : Nat} {h : H} {Q : D → H → Prop} {R : ZM},Zpy d v → Rep v c → Vs d v ≤ 1000000 → d ≤ m → m ≤ 1200 → (∀ h',h.next ≤ h'.next → (∀ l,l < h.next → hget h'.mem l = hget h.mem l) → Q (.int .i64 (.ofNat (Vs d v))) h') → VC E T 62 [.agg c,.int .i64 (.ofNat m)] h Q R
theorem CN.out (hc : CN E T d) {m : Nat} {a b e f : D} (h1 : Zpy d v) (h2 : Rep v [a,b,e,f]) (h3 : Vs d v ≤ 1000000) (h4 : d ≤ m) (h5 : m ≤ 1200) (hq : ∀ h',h.next ≤ h'.next → (∀ l,l < h.next → hget h'.mem l = hget h.mem l) → Q (.int .i64 (.ofNat (Vs d v))) h') : VC E T 62 [.agg [a,b,e,f],.int .i64 (.ofNat m)] h Q R := hc h1 h2 h3 h4 h5 hq
theorem Zs {d : D} {l : List V} (h : Zaj Rep 4 d l) : d.one = true := by
  obtain ⟨_,_,_,e⟩ := h
  rcases e with ⟨_,rfl⟩ | ⟨_,rfl,_⟩ <;> rfl
theorem Zgc {a b e f : D} (h : Rep v [a,b,e,f]) : a.one = true ∧ b.one = true ∧ e.one = true ∧ f.one = true := by
  cases v with
  | mk k n s l =>
    obtain ⟨L,e,_,hr⟩ := Rep.inv h
    cases e
    exact ⟨rfl,rfl,rfl,Zs hr⟩
theorem Z88 (h98 : T 98 = q98) (h62 : T 62 = q62) (hc : CN E T d) : CN E T (d + 1) := by
  intro v c m h Q R h1 h2 h3 h4 h5 hq
  obtain ⟨m,rfl⟩ : ∃ k,m = k + 1 := ⟨m - 1,by omega⟩
  cases v with
  | mk k n b l =>
  obtain ⟨L,rfl,_,hr⟩ := Rep.inv h2
  obtain ⟨hv,hx⟩ := h1
  have hx : ∀ x ∈ l,Zpy d x := hx
  have h1' := Zs hr
  have hlen := Zia hr
  have hb : 1 + (l.map (Vs d)).sum ≤ 1000000 := h3
  have hq : ∀ h',h.next ≤ h'.next → (∀ l,l < h.next → hget h'.mem l = hget h.mem l) → Q (.int .i64 (.ofNat (1 + (l.map (Vs d)).sum))) h' := hq
  clear h2 h3
  refine Zd h62 ?_
  unfold Zf
  repeat' (with_reducible (first | refine Yc ?_ | refine Yd ?_ | refine Xo ?_ | refine Xn ?_ | refine Yf ?_ | refine ZQ ?_ | refine Ye ?_ | refine Xp ?_ | refine Vl ?_ | refine Vc ?_ | refine U0 ?_ | refine Z4l h98 hv hr h1' ?_ | refine Vp (IC h L l d m) (n := l.length) ?_ ?_ | simp (maxSteps := 2000000) (disch := first | assumption | omega | (simp only [Z8,Z7,List.length_cons,List.length_nil,List.length_append,List.length_take,List.length_drop]; omega) | fail) only [go_sem, -Int.reduceOfNat, *,List.sum_nil,Nat.add_zero,List.take_zero,List.map_nil] | ((first | refine Zbt ?_ ?_ | refine U3 ?_ ?_ | refine Zbs ?_ ?_ | refine U1 ?_ ?_ | refine U2 ?_ ?_ | refine Vd ?_ ?_) <;> intro _ <;> (try (exfalso; omega))) | (intro h2 f1 f2) | assumption | exact trivial | (show _ < _; omega) | (show _ ≤ _; omega) | (show ¬ (_ : Nat) = _; omega) | (show (_ : Nat) ≠ _; omega) | (show (_ : Nat) = _; omega) | (intro _; intros) | (refine ⟨_,by assumption, ?_⟩) | refine And.intro ?_ ?_))
  rintro n' t1 h1 ⟨gn,gf,g17,g18,g1,i,g19,gi,g5⟩
  by_cases hlt : i < l.length
  · obtain ⟨x,hxi⟩ : ∃ x,l[i]? = some x := ⟨l[i],List.getElem?_eq_getElem hlt⟩
    obtain ⟨a,b',e,f,r,hrx,hix⟩ := Zj4 hr hxi
    have hok := hx x (List.mem_of_getElem? hxi)
    have hst := Ztu (d := d) hxi
    have hsl := Z2g (d := d) (l := l) (i := i + 1)
    have hpos := Zzn hok
    obtain ⟨o1,o2,o3,o4⟩ := Zgc hrx
    rw [hst] at hsl
    clear hv hr hx hxi
    repeat' (with_reducible (first | refine Yc ?_ | refine Yd ?_ | refine Xo ?_ | refine Xn ?_ | refine Yf ?_ | refine ZQ ?_ | refine Ye ?_ | refine Xp ?_ | refine Vl ?_ | refine Vc ?_ | refine U0 ?_ | refine hc.out hok hrx (by omega) (by omega) (by omega) ?_ | simp (maxSteps := 2000000) (disch := first | assumption | omega | (simp only [Z8,Z7,List.length_cons,List.length_nil,List.length_append,List.length_take,List.length_drop]; omega) | fail) only [go_sem, -Int.reduceOfNat, *] | ((first | refine Zbt ?_ ?_ | refine U3 ?_ ?_ | refine Zbs ?_ ?_ | refine U1 ?_ ?_ | refine U2 ?_ ?_ | refine Vd ?_ ?_) <;> intro _ <;> (try (exfalso; omega))) | (intro h2 f1 f2) | (show ∃ k,k < n' ∧ IC _ _ _ _ _ k _ _; refine ⟨n' - 1,by omega, ?_⟩) | assumption | exact trivial | (show _ < _; omega) | (show _ ≤ _; omega) | (show ¬ (_ : Nat) = _; omega) | (show (_ : Nat) ≠ _; omega) | (show (_ : Nat) = _; omega) | (intro _; intros) | (refine ⟨_,by assumption, ?_⟩) | refine And.intro ?_ ?_))
  · obtain rfl : i = l.length := by omega
    rw [List.take_length] at g5
    clear hv hr hx
    repeat' (with_reducible (first | refine Yc ?_ | refine Yd ?_ | refine Xo ?_ | refine Xn ?_ | refine Yf ?_ | refine ZQ ?_ | refine Ye ?_ | refine Xp ?_ | refine Vl ?_ | refine Vc ?_ | refine U0 ?_ | simp (maxSteps := 2000000) (disch := first | assumption | omega | (simp only [Z8,Z7,List.length_cons,List.length_nil,List.length_append,List.length_take,List.length_drop]; omega) | fail) only [go_sem, -Int.reduceOfNat, *] | ((first | refine Zbt ?_ ?_ | refine U3 ?_ ?_ | refine Zbs ?_ ?_ | refine U1 ?_ ?_ | refine U2 ?_ ?_ | refine Vd ?_ ?_) <;> intro _ <;> (try (exfalso; omega))) | (show Q _ _; refine hq _ ?_ ?_) | assumption | exact trivial | (show _ < _; omega) | (show _ ≤ _; omega) | (show ¬ (_ : Nat) = _; omega) | (show (_ : Nat) ≠ _; omega) | (show (_ : Nat) = _; omega) | (intro _; intros) | (refine ⟨_,by assumption, ?_⟩) | refine And.intro ?_ ?_))
end
end
section
variable {h : H} {Q : D → H → Prop} {R : ZM}
section
variable {d m : Nat} {v : V} {c : List D}
theorem Z5u (h98 : T 98 = q98) (h62 : T 62 = q62) : ∀ d,CN E T d
  | 0 => fun h1 => h1.elim
  | d + 1 => Z88 h98 h62 (Z5u h98 h62 d)
theorem Z1o (h98 : T 98 = q98) (h62 : T 62 = q62) (h35 : T 35 = q35) {a b e f : D} (h1 : Zpy d v) (h2 : Rep v [a,b,e,f]) (h3 : Vs d v ≤ 1000000) (h4 : d ≤ 1200) (hq : ∀ h',h.next ≤ h'.next → (∀ l,l < h.next → hget h'.mem l = hget h.mem l) → Q (.int .i64 (.ofNat (Vs d v))) h') : VC E T 35 [.agg [a,b,e,f]] h Q R := by
  have hn : CN E T d := Z5u (E := E) h98 h62 d
  obtain ⟨o1,o2,o3,o4⟩ := Zgc h2
  refine Zd h35 ?_
  unfold Zf
  repeat' (with_reducible (first | refine Yc ?_ | refine Yd ?_ | refine Xo ?_ | refine Xn ?_ | refine Yf ?_ | refine ZQ ?_ | refine Ye ?_ | refine Xp ?_ | refine Vl ?_ | refine Vc ?_ | refine U0 ?_ | refine hn.out h1 h2 h3 h4 (by omega) ?_ | simp (maxSteps := 2000000) (disch := first | assumption | omega | (simp only [Z8,Z7,List.length_cons,List.length_nil,List.length_append,List.length_take,List.length_drop]; omega) | fail) only [go_sem, -Int.reduceOfNat, *] | ((first | refine Zbt ?_ ?_ | refine U3 ?_ ?_ | refine Zbs ?_ ?_ | refine U1 ?_ ?_ | refine U2 ?_ ?_ | refine Vd ?_ ?_) <;> intro _ <;> (try (exfalso; omega))) | (intro hh f1 f2) | (show Q _ _; refine hq _ ?_ ?_) | assumption | exact trivial | (show _ < _; omega) | (show _ ≤ _; omega) | (show ¬ (_ : Nat) = _; omega) | (show (_ : Nat) ≠ _; omega) | (show (_ : Nat) = _; omega) | (intro _; intros) | (refine ⟨_,by assumption, ?_⟩) | refine And.intro ?_ ?_))
theorem Zvf (h98 : T 98 = q98) (h62 : T 62 = q62) (h35 : T 35 = q35) (h27 : T 27 = q27) {a b e f : D} (h1 : Zpy d v) (h2 : Rep v [a,b,e,f]) (h3 : Vs d v ≤ 1000000) (h4 : d ≤ 1200) (hq : ∀ h',h.next ≤ h'.next → (∀ l,l < h.next → hget h'.mem l = hget h.mem l) → Q (.v (.bool true)) h') : VC E T 27 [.agg [a,b,e,f]] h Q R := by
  obtain ⟨o1,o2,o3,o4⟩ := Zgc h2
  have hpos := Zzn h1
  have hps : decide (0 < Vs d v) = true := decide_eq_true (by omega)
  refine Zd h27 ?_
  unfold Zf
  repeat' (with_reducible (first | refine Yc ?_ | refine Yd ?_ | refine Xo ?_ | refine Xn ?_ | refine Yf ?_ | refine ZQ ?_ | refine Ye ?_ | refine Xp ?_ | refine Vl ?_ | refine Vc ?_ | refine U0 ?_ | refine Z1o h98 h62 h35 h1 h2 h3 h4 ?_ | simp (maxSteps := 2000000) (disch := first | assumption | omega | (simp only [Z8,Z7,List.length_cons,List.length_nil,List.length_append,List.length_take,List.length_drop]; omega) | fail) only [go_sem, -Int.reduceOfNat, *] | ((first | refine Zbt ?_ ?_ | refine U3 ?_ ?_ | refine Zbs ?_ ?_ | refine U1 ?_ ?_ | refine U2 ?_ ?_ | refine Vd ?_ ?_) <;> intro _ <;> (try (exfalso; omega))) | (intro hh f1 f2) | (show Q _ _; refine hq _ ?_ ?_) | assumption | exact trivial | (show _ < _; omega) | (show _ ≤ _; omega) | (show ¬ (_ : Nat) = _; omega) | (show (_ : Nat) ≠ _; omega) | (show (_ : Nat) = _; omega) | (intro _; intros) | (refine ⟨_,by assumption, ?_⟩) | refine And.intro ?_ ?_))
abbrev IQ (h0 : H) (l : List V) (a0 b0 a1 b1 : D) (L L' : D) (n : Nat) (t1 : Tr D) (h1 : H) : Prop :=
  h0.next + 2 ≤ h1.next ∧ (∀ x,x < h0.next → hget h1.mem x = hget h0.mem x) ∧ Gt 2 t1 = .ptr h0.next 0 ∧ Gt 3 t1 = .ptr (h0.next + 1) 0 ∧ Gt 36 t1 = .int .i64 (.ofNat l.length) ∧ hget h1.mem h0.next = some (.cells 39 [a0,b0,a1,L]) ∧ hget h1.mem (h0.next + 1) = some (.cells 39 [a0,b0,a1,L']) ∧ ∃ i,Gt 37 t1 = .int .i64 (.ofNat i) ∧ i + n = l.length
def SM (E : Env) (T : Nat → ZV) (d : Nat) : Prop := ∀ {v : V} {c c' : List D} {h : H} {Q : D → H → Prop} {R : ZM},Zpy d v → Rep v c → Rep v c' → (∀ h',h.next ≤ h'.next → (∀ l,l < h.next → hget h'.mem l = hget h.mem l) → Q (.v (.bool true)) h') → VC E T 28 [.agg c,.agg c'] h Q R
theorem SM.out (hc : SM E T d) {a b e f a' b' e' f' : D} (h1 : Zpy d v) (h2 : Rep v [a,b,e,f]) (h3 : Rep v [a',b',e',f']) (hq : ∀ h',h.next ≤ h'.next → (∀ l,l < h.next → hget h'.mem l = hget h.mem l) → Q (.v (.bool true)) h') : VC E T 28 [.agg [a,b,e,f],.agg [a',b',e',f']] h Q R := hc h1 h2 h3 hq
theorem Z6v (h28 : T 28 = q28) (hc : SM E T d) : SM E T (d + 1) := by
  intro v c c' h Q R h1 h2 h3 hq
  cases v with
  | mk k n b l =>
  obtain ⟨L,rfl,_,hr⟩ := Rep.inv h2
  obtain ⟨L',rfl,_,hr'⟩ := Rep.inv h3
  obtain ⟨_,hx⟩ := h1
  have hx : ∀ x ∈ l,Zpy d x := hx
  have o1 := Zs hr
  have o2 := Zs hr'
  have hlen := Zia hr
  have hlen' := Zia hr'
  clear h2 h3
  refine Zd h28 ?_
  unfold Zf
  repeat' (with_reducible (first | refine Yc ?_ | refine Yd ?_ | refine Xo ?_ | refine Xn ?_ | refine Yf ?_ | refine ZQ ?_ | refine Ye ?_ | refine Xp ?_ | refine Vl ?_ | refine Vc ?_ | refine U0 ?_ | refine Vp (IQ h l (.int .i64 (.ofNat k)) (.int .u64 (.ofNat n)) (.str b) (.str b) L L') (n := l.length) ?_ ?_ | simp (maxSteps := 2000000) (disch := first | assumption | omega | (simp only [Z8,Z7,List.length_cons,List.length_nil,List.length_append,List.length_take,List.length_drop]; omega) | fail) only [go_sem, -Int.reduceOfNat, *,Zbp,Nat.beq_refl] | ((first | refine Zbt ?_ ?_ | refine U3 ?_ ?_ | refine Zbs ?_ ?_ | refine U1 ?_ ?_ | refine U2 ?_ ?_ | refine Vd ?_ ?_) <;> intro _ <;> (try (exfalso; omega))) | (intro hh f1 f2) | assumption | exact trivial | (show _ < _; omega) | (show _ ≤ _; omega) | (show ¬ (_ : Nat) = _; omega) | (show (_ : Nat) ≠ _; omega) | (show (_ : Nat) = _; omega) | (intro _; intros) | (refine ⟨_,by assumption, ?_⟩) | refine And.intro ?_ ?_))
  rintro n' t1 h1 ⟨gn,gf,g2,g3,g36,m1,m2,i,g37,gi⟩
  by_cases hlt : i < l.length
  · obtain ⟨x,hxi⟩ : ∃ x,l[i]? = some x := ⟨l[i],List.getElem?_eq_getElem hlt⟩
    obtain ⟨a,b',e,f,r,hrx,hix⟩ := Zj4 hr hxi
    obtain ⟨a',b'',e',f',r',hrx',hix'⟩ := Zj4 hr' hxi
    have hok := hx x (List.mem_of_getElem? hxi)
    obtain ⟨p1,p2,p3,p4⟩ := Zgc hrx
    obtain ⟨r1,r2,r3,r4⟩ := Zgc hrx'
    clear hr hr' hx hxi
    repeat' (with_reducible (first | refine Yc ?_ | refine Yd ?_ | refine Xo ?_ | refine Xn ?_ | refine Yf ?_ | refine ZQ ?_ | refine Ye ?_ | refine Xp ?_ | refine Vl ?_ | refine Vc ?_ | refine U0 ?_ | refine hc.out hok hrx hrx' ?_ | simp (maxSteps := 2000000) (disch := first | assumption | omega | (simp only [Z8,Z7,List.length_cons,List.length_nil,List.length_append,List.length_take,List.length_drop]; omega) | fail) only [go_sem, -Int.reduceOfNat, *] | ((first | refine Zbt ?_ ?_ | refine U3 ?_ ?_ | refine Zbs ?_ ?_ | refine U1 ?_ ?_ | refine U2 ?_ ?_ | refine Vd ?_ ?_) <;> intro _ <;> (try (exfalso; omega))) | (intro hh f1 f2) | (show ∃ k,k < n' ∧ IQ _ _ _ _ _ _ _ _ k _ _; refine ⟨n' - 1,by omega, ?_⟩) | assumption | exact trivial | (show _ < _; omega) | (show _ ≤ _; omega) | (show ¬ (_ : Nat) = _; omega) | (show (_ : Nat) ≠ _; omega) | (show (_ : Nat) = _; omega) | (intro _; intros) | (refine ⟨_,by assumption, ?_⟩) | refine And.intro ?_ ?_))
  · obtain rfl : i = l.length := by omega
    clear hr hr' hx
    repeat' (with_reducible (first | refine Yc ?_ | refine Yd ?_ | refine Xo ?_ | refine Xn ?_ | refine Yf ?_ | refine ZQ ?_ | refine Ye ?_ | refine Xp ?_ | refine Vl ?_ | refine Vc ?_ | refine U0 ?_ | simp (maxSteps := 2000000) (disch := first | assumption | omega | (simp only [Z8,Z7,List.length_cons,List.length_nil,List.length_append,List.length_take,List.length_drop]; omega) | fail) only [go_sem, -Int.reduceOfNat, *] | ((first | refine Zbt ?_ ?_ | refine U3 ?_ ?_ | refine Zbs ?_ ?_ | refine U1 ?_ ?_ | refine U2 ?_ ?_ | refine Vd ?_ ?_) <;> intro _ <;> (try (exfalso; omega))) | (show Q _ _; refine hq _ ?_ ?_) | assumption | exact trivial | (show _ < _; omega) | (show _ ≤ _; omega) | (show ¬ (_ : Nat) = _; omega) | (show (_ : Nat) ≠ _; omega) | (show (_ : Nat) = _; omega) | (intro _; intros) | (refine ⟨_,by assumption, ?_⟩) | refine And.intro ?_ ?_))
theorem Z2i (h28 : T 28 = q28) : ∀ d,SM E T d
  | 0 => fun h1 => h1.elim
  | d + 1 => Z6v h28 (Z2i h28 d)
theorem Zrf (h98 : T 98 = q98) (h62 : T 62 = q62) (h35 : T 35 = q35) (h27 : T 27 = q27) (h28 : T 28 = q28) (h12 : T 12 = q12) {a b e f a' b' e' f' : D} (h1 : Zpy d v) (h2 : Rep v [a,b,e,f]) (h2' : Rep v [a',b',e',f']) (h3 : Vs d v ≤ 1000000) (h4 : d ≤ 1200) (hq : ∀ h',h.next ≤ h'.next → (∀ l,l < h.next → hget h'.mem l = hget h.mem l) → Q (.v (.bool true)) h') : VC E T 12 [.agg [a,b,e,f],.agg [a',b',e',f']] h Q R := by
  have hs : SM E T d := Z2i (E := E) h28 d
  obtain ⟨p1,p2,p3,p4⟩ := Zgc h2
  obtain ⟨r1,r2,r3,r4⟩ := Zgc h2'
  refine Zd h12 ?_
  unfold Zf
  repeat' (with_reducible (first | refine Yc ?_ | refine Yd ?_ | refine Xo ?_ | refine Xn ?_ | refine Yf ?_ | refine ZQ ?_ | refine Ye ?_ | refine Xp ?_ | refine Vl ?_ | refine Vc ?_ | refine U0 ?_ | refine Zvf h98 h62 h35 h27 h1 h2 h3 h4 ?_ | refine Zvf h98 h62 h35 h27 h1 h2' h3 h4 ?_ | refine hs.out h1 h2 h2' ?_ | simp (maxSteps := 2000000) (disch := first | assumption | omega | (simp only [Z8,Z7,List.length_cons,List.length_nil,List.length_append,List.length_take,List.length_drop]; omega) | fail) only [go_sem, -Int.reduceOfNat, *] | ((first | refine Zbt ?_ ?_ | refine U3 ?_ ?_ | refine Zbs ?_ ?_ | refine U1 ?_ ?_ | refine U2 ?_ ?_ | refine Vd ?_ ?_) <;> intro _ <;> (try (exfalso; omega))) | (intro hh f1 f2) | (show Q _ _; refine hq _ ?_ ?_) | assumption | exact trivial | (show _ < _; omega) | (show _ ≤ _; omega) | (show ¬ (_ : Nat) = _; omega) | (show (_ : Nat) ≠ _; omega) | (show (_ : Nat) = _; omega) | (intro _; intros) | (refine ⟨_,by assumption, ?_⟩) | refine And.intro ?_ ?_))
end
end
section
variable {h : H} {Q : D → H → Prop} {R : ZM}
theorem Zsj {d : Nat} {v : V} (h1 : Zi5 v) (h2 : v.l = []) : Zpy (d + 1) v := ⟨h1,fun x hx => by rw [h2] at hx; cases hx⟩
theorem Zv0 {d : Nat} {v : V} (h2 : v.l = []) : Vs (d + 1) v = 1 := by rw [Vs,h2]; rfl
theorem Zj3 {α : Type} {f : α → Nat} {b : Nat} : ∀ {l : List α},(∀ x ∈ l,f x ≤ b) → (l.map f).sum ≤ b * l.length
  | [],_ => by simp
  | x :: r,h => by
    have ih := Zj3 (f := f) (b := b) (l := r) fun y hy => h y (List.mem_cons_of_mem _ hy)
    have := h x (List.mem_cons_self ..)
    simp only [List.map_cons,List.sum_cons,List.length_cons,Nat.mul_add,Nat.mul_one]
    omega
theorem Z4n {n : Nat} : Zi5 (UW n) := Or.inr (Or.inl ⟨rfl,rfl,rfl⟩)
theorem Zxc : Zi5 Zit := Or.inl ⟨rfl,rfl,rfl,rfl⟩
theorem lean_B {s : List Nat} : Zi5 (mkB s) := Or.inr (Or.inr (Or.inl ⟨rfl,rfl,rfl⟩))
theorem Z4m {l : List V} : Zi5 (Zpt l) := Or.inr (Or.inr (Or.inr (Or.inl ⟨rfl,rfl,rfl⟩)))
theorem Zxd {l : List V} : Zi5 (Zy4 l) := Or.inr (Or.inr (Or.inr (Or.inr ⟨rfl,rfl,rfl⟩)))
def Z4o (v : V) : Prop := Zi5 v ∧ v.l = []
theorem Z1n {inp : List Nat} {kd o n : Nat} : Z4o (Zi8 inp kd o n) := by
  unfold Zi8
  split
  · exact ⟨Zxc,rfl⟩
  · exact ⟨lean_B,rfl⟩
theorem Zk5 {inp : List Nat} {kd o n : Nat} : ∀ x ∈ Zt4 kd o n ++ [Zi8 inp kd o n],Z4o x := by
  intro x hx
  rcases List.mem_append.mp hx with hx | hx
  · unfold Zt4 at hx
    simp only [List.mem_cons,List.not_mem_nil,or_false] at hx
    rcases hx with rfl | rfl | rfl | rfl | rfl | rfl | rfl | rfl | rfl | rfl <;> exact ⟨Z4n,rfl⟩
  · rw [List.mem_singleton.mp hx]; exact Z1n
theorem Zjt {tb n : Nat} : ∀ x ∈ Zmo tb n,Z4o x := by
  intro x hx
  unfold Zmo at hx
  simp only [List.mem_cons,List.not_mem_nil,or_false] at hx
  rcases hx with rfl | rfl | rfl | rfl | rfl | rfl | rfl | rfl | rfl | rfl | rfl | rfl | rfl | rfl | rfl | rfl | rfl | rfl | rfl <;> first | exact ⟨Z4n,rfl⟩ | exact ⟨Zxc,rfl⟩
theorem Zol {d : Nat} {l : List V} {v : V} (h1 : Zi5 v) (h2 : v.l = l) (h : ∀ x ∈ l,Zpy d x) : Zpy (d + 1) v := ⟨h1,by rw [h2]; exact h⟩
theorem Zk6 {inp : List Nat} : ∀ {r : List (Nat × List Nat)} {n : Nat} {x : V},x ∈ Zbn inp n r → ∃ kd o k,x = Zt3 inp kd o k
  | [],_,_,h => by simp [Zbn] at h
  | (k,d) :: r,n,x,h => by
    rw [Zbn] at h
    rcases List.mem_cons.mp h with rfl | h
    · exact ⟨_,_,_,rfl⟩
    · exact Zk6 h
theorem Z7d {inp : List Nat} {kd o k : Nat} : Zpy 2 (Zt3 inp kd o k) := Zol Zxd rfl fun x hx => Zsj (Zk5 x hx).1 (Zk5 x hx).2
theorem Z23 {inp : List Nat} {kd o k : Nat} : Vs 2 (Zt3 inp kd o k) ≤ 12 := by
  show 1 + ((Zt4 kd o k ++ [Zi8 inp kd o k]).map (Vs 1)).sum ≤ 12
  have h := Zj3 (f := Vs 1) (b := 1) (l := Zt4 kd o k ++ [Zi8 inp kd o k]) fun x hx => by rw [Zv0 (Zk5 x hx).2]; exact Nat.le_refl 1
  have h2 : (Zt4 kd o k ++ [Zi8 inp kd o k]).length = 11 := rfl
  omega
section
variable {sx : List (Nat × List Nat)} {ext : List Nat}
def Zdv (sx : List (Nat × List Nat)) (ext : List Nat) : List V := Zmo (64 + (YR sx).length) sx.length ++ [Zpt (Zbn (YM sx ++ ext) 0 sx)]
theorem Zzl : ∀ x ∈ Zdv sx ext,Zpy 3 x := by
  intro x hx
  rcases List.mem_append.mp hx with hx | hx
  · exact Zsj (Zjt x hx).1 (Zjt x hx).2
  · rw [List.mem_singleton.mp hx]
    exact Zol Z4m rfl fun y hy => by obtain ⟨_,_,_,rfl⟩ := Zk6 hy; exact Z7d
theorem Zvr (hs : sx.length ≤ 20) : ((Zdv sx ext).map (Vs 3)).sum ≤ 300 := by
  rw [Zdv,List.map_append,List.sum_append]
  have h1 := Zj3 (f := Vs 3) (b := 1) (l := Zmo (64 + (YR sx).length) sx.length) fun x hx => by rw [Zv0 (Zjt x hx).2]; exact Nat.le_refl 1
  have h2 : (Zmo (64 + (YR sx).length) sx.length).length = 19 := rfl
  have h3 := Zj3 (f := Vs 2) (b := 12) (l := Zbn (YM sx ++ ext) 0 sx) fun x hx => by obtain ⟨_,_,_,rfl⟩ := Zk6 hx; exact Z23
  rw [Zqj] at h3
  have h4 : (([Zpt (Zbn (YM sx ++ ext) 0 sx)] : List V).map (Vs 3)).sum = 1 + ((Zbn (YM sx ++ ext) 0 sx).map (Vs 2)).sum := by
    rw [List.map_singleton,List.sum_singleton]; rfl
  omega
theorem Z8x : Zpy 4 (Zy4 (Zdv sx ext)) := Zol Zxd rfl Zzl
theorem Z5k (hs : SOk sx) : Vs 4 (Zy4 (Zdv sx ext)) ≤ 1000000 := by
  show 1 + ((Zdv sx ext).map (Vs 3)).sum ≤ _
  have := Zvr (ext := ext) hs.n
  omega
theorem Zin : Zjv sx ext = Zy4 (Zdv sx ext ++ [Zpt (List.replicate ((YM sx ++ ext).length - 64) Zit)]) := rfl
theorem Z8w : Zpy 4 (Zjv sx ext) := Zol Zxd rfl fun x hx => by
  rcases List.mem_append.mp hx with hx | hx
  · exact Zzl x hx
  · rw [List.mem_singleton.mp hx]
    exact Zol Z4m rfl fun y hy => by rw [List.eq_of_mem_replicate hy]; exact Zsj Zxc rfl
theorem Z5j (hs : SOk sx) (hx : ext.length ≤ 1) : Vs 4 (Zjv sx ext) ≤ 1000000 := by
  rw [Zin]
  show 1 + ((Zdv sx ext ++ [Zpt (List.replicate ((YM sx ++ ext).length - 64) Zit)]).map (Vs 3)).sum ≤ _
  rw [List.map_append,List.sum_append]
  have h1 := Zvr (ext := ext) hs.n
  have h2 : (([Zpt (List.replicate ((YM sx ++ ext).length - 64) Zit)] : List V).map (Vs 3)).sum = 1 + ((List.replicate ((YM sx ++ ext).length - 64) Zit).map (Vs 2)).sum := by
    rw [List.map_singleton,List.sum_singleton]; rfl
  have h3 := Zj3 (f := Vs 2) (b := 1) (l := List.replicate ((YM sx ++ ext).length - 64) Zit) fun x hx => by rw [List.eq_of_mem_replicate hx]; exact Nat.le_refl 1
  rw [List.length_replicate] at h3
  have h4 : (YM sx ++ ext).length ≤ 10000 := by
    have := Zfz hs.d
    have := hs.n
    rw [List.length_append,Zeh]; omega
  omega
theorem Z6s {inp e : List Nat} {o n : Nat} (h : o + n ≤ inp.length) : sub (inp ++ e) o n = sub inp o n := by
  unfold sub
  rw [List.drop_append_of_le_length (by omega),List.take_append_of_le_length (by rw [List.length_drop]; omega)]
theorem Zqk {inp e : List Nat} : ∀ (r : List (Nat × List Nat)) (n : Nat),64 + n + (YR r).length ≤ inp.length → Zbn (inp ++ e) n r = Zbn inp n r
  | [],_,_ => rfl
  | (k,d) :: r,n,h => by
    rw [YR,List.length_append] at h
    rw [Zbn,Zbn,Zqk r (n + d.length) (by omega)]
    congr 1
    unfold Zt3 Zi8
    rw [Z6s (by omega)]
theorem Z5h : Zdv sx ext = Zdv sx [] := by
  unfold Zdv
  rw [List.append_nil,Zqk sx 0 (by rw [Zeh]; omega)]
theorem Z4x {d : D} {l : List V} {m : Nat} (hr : Zaj Rep 4 d l) (hm : m < l.length) (h0 : 0 < m) : ∃ d',(∀ h : H,Z0q 4 d (.int .i64 (.ofNat m)) h = .ok d' h) ∧ Zaj Rep 4 d' (l.take m) := by
  obtain ⟨cs,hrow,h4,⟨rfl,_⟩ | ⟨id,rfl,_⟩⟩ := hr
  · simp at hm
  · have hl : cs.length = l.length := hrow.1
    have hmc : m < cs.length := by omega
    refine ⟨_,fun h => Zsl (by omega),cs.take m,⟨by simp [hl],fun i x c e1 e2 => ?_⟩,fun c hc => h4 c (List.mem_of_mem_take hc),Or.inr ⟨0, ?_,fun e => ?_⟩⟩
    · rw [List.getElem?_take] at e1 e2
      split at e1
      · rename_i hi
        rw [if_pos hi] at e2
        exact hrow.2 i x c e1 e2
      · cases e1
    · have hb : Nat.beq m cs.length = false := by
        cases hq : Nat.beq m cs.length with
        | false => rfl
        | true => have := Nat.eq_of_beq_eq_true hq; omega
      have ht : ∀ (cs : List (List D)) (m : Nat),(∀ c ∈ cs,c.length = 4) → cs.flatten.take (m * 4) = (cs.take m).flatten := fun cs => by
        induction cs with
        | nil => intro m _; simp
        | cons x r ih =>
          intro m h
          cases m with
          | zero => simp
          | succ m =>
            have hx := h x (List.mem_cons_self ..)
            have := ih m fun c hc => h c (List.mem_cons_of_mem _ hc)
            rw [List.flatten_cons,List.take_succ_cons,List.flatten_cons,← this,List.take_append,List.take_of_length_le (by omega)]
            congr 2
            omega
      rw [Zjr,hb,cond_false,ht cs m h4,List.length_take,Nat.min_eq_left (Nat.le_of_lt hmc)]
    · have := congrArg List.length e
      rw [List.length_take,List.length_nil] at this
      omega
end
end
end Run
end
end Go.Abs
