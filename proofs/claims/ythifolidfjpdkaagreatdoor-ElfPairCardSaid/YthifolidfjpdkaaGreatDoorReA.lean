/- Values: what makes them: walks of the program. -/
import Derived.Test.YthifolidfjpdkaaGreatDoorNeW
set_option linter.unusedVariables false
set_option linter.unusedSimpArgs false
namespace Go.Abs
noncomputable section
namespace Run
variable {E : Env} {T : Nat → ZV}
set_option maxHeartbeats 4000000
set_option maxRecDepth 100000
theorem Znb {G : Prop} (g : G := by
  repeat' (with_reducible (first | refine zc ?_ | simp (maxSteps := 2000000) (disch := first | exact zd | fail) only [go_sem, -Int.reduceOfNat, *] | (refine zb ?_ ?_ <;> intro _) | (show Q _ _; refine hq _ ?_ ?_) | exact ze | (intro _; intros) | (refine ⟨_,by assumption, ?_⟩) | refine And.intro ?_ ?_))) : G := g
attribute [local go_sem] Zc2 Ud Zc3 Ub Uj Ua Ug Zc1 Uf Ue Zc0 XJ Ul XG Uh WM XH Ym WN UY Un WL Ui Uk Um WO YN WQ Zam Wq Wp Uc Vw Vx Zc5 Zc6 Uo Ut Ur XL XK Yn Uq Up Zc4 WR Uv Us Uu WS Zar Zap Zas Zao Vz Zaq VA Zat Vy VB Zc7 Zau Zc9 Uw Zc8 Zir Zis Zip Ziq Zes Zet UG UF UH UJ UI UK Zdh Zdg V7 V8 V6 Zda VI VJ VH V4 UA XU V1 V3 XV XW UD UC UB XR YX Wg Uy Zdd Zez Zps X0 YZ VE Za8 XX V0 Y0 ZH X2 Ys WI patch Yq Yr YW YV Wc Wb Xj Xk XD V9 Wa X3 Yv YY XY Xt X1 Yp ZN Yt mem_cons Zdf Zdc YT Option.map_some Option.map_none V5 Wx Wz Wy Za9 VG Ww VF YO YP X9 X4 Xa Wd X5 X8 X6 Yw X7 WX XP WZ WU Uz WV WY WW XQ XO YG Wo WH Zgx Zcp Zcy Zbp Zdj Zq7 Xi Xz Va WB Yo YU Yu Y1 ZU YH ZW Xm List.drop_succ_cons List.drop_zero List.drop_nil List.take_succ_cons List.take_zero List.take_nil List.length_cons List.length_nil List.length_append List.cons_append List.nil_append Nat.reduceAdd Nat.reduceEqDiff Nat.reduceLeDiff Nat.reduceLT List.cons.injEq reduceCtorEq eq_self not_true_eq_false not_false_eq_true and_false false_and true_or or_true decide_true decide_false Bool.and_self Bool.and_true Bool.true_and Bool.true_or Bool.or_true Bool.false_or Bool.or_false Bool.false_and Bool.and_false Bool.not_true Bool.not_false cond_true cond_false true_and and_true Zah Zde Zdi reduceIte Nat.add_zero Nat.zero_add Nat.add_sub_cancel Nat.reduceMul Nat.reduceSub Nat.reduceBEq List.map_cons List.map_nil Z8 Z7 Y2 Zi Zb Z9 Ws Zeu Wk ZY ZL Wu Wt XN XM and_assoc exists_and_left D.str.injEq Nat.lt_irrefl Nat.not_lt_zero true_implies false_implies implies_true forall_const ge_iff_le gt_iff_lt Nat.sub_zero List.append_assoc Option.some.injEq AObj.cells.injEq D.int.injEq D.ptr.injEq Int.ofNat.injEq exists_eq_left' D.v.injEq Value.bool.injEq D.agg.injEq Nat.mul_one
section
variable {h : H} {Q : D → H → Prop} {R : ZM}
def Zf : List (D → Tr D → Tr D) := [St 0,St 1,St 2,St 3,St 4,St 5,St 6,St 7,St 8,St 9,St 10,St 11]
def q122 : ZV := Zbg Zf (fun t h => UP ⟨[.cN 2 4],.skip⟩ (act t) h)
 (Z0 (Z1<|fo (Zo 39 [(.int .i64 (.ofNat 0)),(.int .u64 (.ofNat 0)),(.str []),(.v (.slice none 0 0))]) (St 2)<|Z2)
 (Z0 (Z1<|mM 0 3<|fo (YQ [(.int .i64 (.ofNat 0)),(.int .u64 (.ofNat 0)),(.str []),(.v (.slice none 0 0))] [(0,1,(kI 1)),(1,1,(Gt 3))]) (St 4)<|fo (ZF 4 (Gt 2) (Gt 4)) p0<|Z2)
 Zv))
def q11 : ZV := Zbg Zf (fun t h => UP ⟨[.cN 2 4],.skip⟩ (act t) h)
 (Z0 (Z1<|fo (Zo 39 [(.int .i64 (.ofNat 0)),(.int .u64 (.ofNat 0)),(.str []),(.v (.slice none 0 0))]) (St 2)<|Z2)
 (Z0 (Z1<|mM 0 3<|fo (YQ [(.int .i64 (.ofNat 0)),(.int .u64 (.ofNat 0)),(.str []),(.v (.slice none 0 0))] [(0,1,(kI 2)),(2,1,(Gt 3))]) (St 4)<|fo (ZF 4 (Gt 2) (Gt 4)) p0<|Z2)
 Zv))
def q229 : ZV := Zbg Zf (fun t h => UP ⟨[.cN 2 4],.skip⟩ (act t) h)
 (Z0 (Z1<|fo (Zo 39 [(.int .i64 (.ofNat 0)),(.int .u64 (.ofNat 0)),(.str []),(.v (.slice none 0 0))]) (St 2)<|Z2)
 (Z0 (Z1<|mM 0 3<|fo (YQ [(.int .i64 (.ofNat 0)),(.int .u64 (.ofNat 0)),(.str []),(.v (.slice none 0 0))] [(0,1,(kI 3)),(3,1,(Gt 3))]) (St 4)<|fo (ZF 4 (Gt 2) (Gt 4)) p0<|Z2)
 Zv))
def q16 : ZV := Zbg Zf (fun t h => UP ⟨[.cN 2 4],.skip⟩ (act t) h)
 (Z0 (Z1<|fo (Zo 39 [(.int .i64 (.ofNat 0)),(.int .u64 (.ofNat 0)),(.str []),(.v (.slice none 0 0))]) (St 2)<|Z2)
 (Z0 (Z1<|mM 0 3<|fo (YQ [(.int .i64 (.ofNat 0)),(.int .u64 (.ofNat 0)),(.str []),(.v (.slice none 0 0))] [(0,1,(kI 4)),(3,1,(Gt 3))]) (St 4)<|fo (ZF 4 (Gt 2) (Gt 4)) p0<|Z2)
 Zv))
theorem vc122 (h122 : T 122 = q122) {n : Nat} (hq : ∀ h',h.next ≤ h'.next → (∀ l,l < h.next → hget h'.mem l = hget h.mem l) → Q (.agg [.int .i64 (.ofNat 1),.int .u64 (.ofNat n),.str [],.v (.slice none 0 0)]) h') : VC E T 122 [.int .u64 (.ofNat n)] h Q R := by
  refine Zd h122 ?_
  unfold Zf
  exact Znb
theorem vc11 (h11 : T 11 = q11) {s : List Nat} (hq : ∀ h',h.next ≤ h'.next → (∀ l,l < h.next → hget h'.mem l = hget h.mem l) → Q (.agg [.int .i64 (.ofNat 2),.int .u64 (.ofNat 0),.str s,.v (.slice none 0 0)]) h') : VC E T 11 [.str s] h Q R := by
  refine Zd h11 ?_
  unfold Zf
  exact Znb
theorem vc229 (h229 : T 229 = q229) {L : D} (hc : L.cells = [L]) (ho : L.one = true) (hq : ∀ h',h.next ≤ h'.next → (∀ l,l < h.next → hget h'.mem l = hget h.mem l) → Q (.agg [.int .i64 (.ofNat 3),.int .u64 (.ofNat 0),.str [],L]) h') : VC E T 229 [L] h Q R := by
  refine Zd h229 ?_
  unfold Zf
  exact Znb
theorem vc16 (h16 : T 16 = q16) {L : D} (hc : L.cells = [L]) (ho : L.one = true) (hq : ∀ h',h.next ≤ h'.next → (∀ l,l < h.next → hget h'.mem l = hget h.mem l) → Q (.agg [.int .i64 (.ofNat 4),.int .u64 (.ofNat 0),.str [],L]) h') : VC E T 16 [L] h Q R := by
  refine Zd h16 ?_
  unfold Zf
  exact Znb
end
section
variable {h : H} {Q : D → H → Prop} {R : ZM}
inductive V
  | mk (k n : Nat) (b : List Nat) (l : List V)
inductive Rep : V → List D → Prop
  | mk {k n : Nat} {b : List Nat} {l : List V} {L : D} {cs : List (List D)} (hb : l.length ≤ 1000000) (hn : cs.length = l.length) (h4 : ∀ c ∈ cs,c.length = 4) (hr : ∀ (i : Nat) (v : V) (c : List D),l[i]? = some v → cs[i]? = some c → Rep v c)
      (hL : (l = [] ∧ L = .v (.slice none 0 0)) ∨ ∃ id,L = .sl id cs.length cs.flatten ∧ l ≠ []) : Rep (.mk k n b l) [.int .i64 (.ofNat k),.int .u64 (.ofNat n),.str b,L]
theorem Rep.of {k n : Nat} {b : List Nat} {l : List V} {L : D} (hb : l.length ≤ 1000000) (h : Zaj Rep 4 L l) : Rep (.mk k n b l) [.int .i64 (.ofNat k),.int .u64 (.ofNat n),.str b,L] := by
  obtain ⟨cs,hr,h4,hL⟩ := h
  exact .mk hb hr.1 h4 hr.2 hL
theorem Rep.inv {k n : Nat} {b : List Nat} {l : List V} {c : List D} (h : Rep (.mk k n b l) c) : ∃ L,c = [.int .i64 (.ofNat k),.int .u64 (.ofNat n),.str b,L] ∧ l.length ≤ 1000000 ∧ Zaj Rep 4 L l := by
  cases h with
  | mk hb hn h4 hr hL => exact ⟨_,rfl,hb,_,⟨hn,hr⟩,h4,hL⟩
theorem Rep.four {v : V} {c : List D} (h : Rep v c) : c.length = 4 := by cases h; rfl
theorem V.lt {k n : Nat} {b : List Nat} {l : List V} {x : V} (h : x ∈ l) : SizeOf.sizeOf x < SizeOf.sizeOf (V.mk k n b l) := by
  have := List.sizeOf_lt_of_mem h
  simp
  omega
theorem len4 {l : List D} (h : l.length = 4) : ∃ a b c d,l = [a,b,c,d] := by
  match l,h with
  | [a,b,c,d],_ => exact ⟨a,b,c,d,rfl⟩
theorem Zj4 {d : D} {l : List V} (hr : Zaj Rep 4 d l) {i : Nat} {x : V} (hx : l[i]? = some x) : ∃ a b e f rest,Rep x [a,b,e,f] ∧ ∀ (kk : IntKind) (h : H),Zci 4 d (.int kk (.ofNat i)) h = .ok (.ep (a :: b :: e :: f :: rest)) h := by
  obtain ⟨cs,hw,hl,hd⟩ := hr
  have hi : i < l.length := (List.getElem?_eq_some_iff.1 hx).1
  have hc : cs[i]? = some (cs[i]'(by rw [hw.1]; exact hi)) := List.getElem?_eq_getElem (by rw [hw.1]; exact hi)
  have h1 := hw.2 i x _ hx hc
  have h2 := hl _ (List.mem_of_getElem? hc)
  obtain ⟨a,b,e,f,he⟩ := len4 h2
  rcases hd with ⟨rfl,_⟩ | ⟨id,rfl,_⟩
  · simp at hx
  have hf := Zgs hl (i := i) (by rw [hw.1]; exact hi)
  rw [he] at hf h1
  exact ⟨a,b,e,f,_,h1,fun kk h => UT (by rw [hw.1]; exact hi) hf⟩
theorem Zia {d : D} {l : List V} (hr : Zaj Rep 4 d l) (m : H) : Zhp d m = .ok (.int .i64 (.ofNat l.length)) m := hr.len m
end
section
variable {h : H} {Q : D → H → Prop} {R : ZM}
section
variable {p : D → Tr D → Tr D} {k : FR} {kd : FD} {recs : List Rec} {t : Tr D} {h : H} {Q : UU} {R : ZM}
theorem Znh {n : Nat} : IntKind.wrap .u64 (Int.ofNat n) = Int.ofNat (n % 18446744073709551616) := by
  simp only [IntKind.wrap,IntKind.bits,IntKind.signed,Bool.false_and]
  simp only [Bool.false_eq_true,if_false]
  have e1 : (Int.ofNat n) = (n : Int) := rfl
  have e2 : Int.ofNat (n % 18446744073709551616) = ((n % 18446744073709551616 : Nat) : Int) := rfl
  have e3 : (2 : Int) ^ 64 = 18446744073709551616 := by decide
  rw [e1,e2,e3]
  omega
def Z33 (E : Env) (s : Sem Value) (h : H) : O D := Zbl (match Zf9 E.P s with
  | some v => some (D.of v)
  | none => none) h "bin"
theorem Zzy {n : Nat} : Zeq .u64 (.ofNat n) = .ofNat (n % 18446744073709551616) := by
  rw [Zj2,Zni,Znh]
theorem Wj {n : Nat} (hn : n < 18446744073709551616) : Zeq .u64 (.ofNat n) = .ofNat n := by rw [Zzy,Nat.mod_eq_of_lt hn]
def oBi (E : Env) (b : Builtin) (ts : Array TypeId) (ty : TypeId) (cs : Array Bool) (ds : List D) (h : H) : O D :=
  match Zgj ds with
  | some vs => match Zf9 E.P (builtin b ts ty cs vs.toArray) with
    | some (.value v) => .ok (.of v) h
    | _ => .fail "builtin"
  | none => .fail "builtin: args"
theorem Zja {b : Builtin} {ts : Array TypeId} {ty : TypeId} {cs : Array Bool} {gs : List (Tr D → D)} : VR E T (fo (fbi b ts ty cs gs) p k) t h Q R ↔ vO E T (oBi E b ts ty cs (Zky gs t) h) p k t Q R := Xc fun _ => rfl
theorem Zp8 {b : Builtin} {ts : Array TypeId} {ty : TypeId} {cs : Array Bool} {gs : List (Tr D → D)} : VD E T (Ze (fbi b ts ty cs gs) p kd) recs t h Q R ↔ vD E T (oBi E b ts ty cs (Zky gs t) h) p kd recs t Q R := VQ fun _ => rfl
theorem Z70 {b : Builtin} {ts : Array TypeId} {ty : TypeId} {cs : Array Bool} {k : IntKind} {a c : Int} : oBi E b ts ty cs [.int k a,.int k c] h = match Zf9 E.P (builtin b ts ty cs #[.int k a,.int k c]) with
    | some (.value v) => .ok (.of v) h
    | _ => .fail "builtin" := by
  have e : Zgj [.int k a,.int k c] = some [.int k a,.int k c] := rfl
  simp only [oBi,e]
theorem Zdr {ts : Array TypeId} {ty : TypeId} {cs : Array Bool} {k : IntKind} {a b : Nat} : oBi E .min ts ty cs [.int k (.ofNat a),.int k (.ofNat b)] h = .ok (.int k (.ofNat (min a b))) h := by
  have e : (if (Int.ofNat b) < (Int.ofNat a) then Int.ofNat b else Int.ofNat a) = Int.ofNat (min a b) := by
    show (if (b : Int) < (a : Int) then (b : Int) else (a : Int)) = ((min a b : Nat) : Int)
    omega
  rw [Z70,← e]
  rfl
end
section
variable {p : D → Tr D → Tr D} {k : FR} {kd : FD} {recs : List Rec} {t : Tr D} {h h0 : H} {Q : UU} {R : ZM} {i : Nat} {inc : List Nat}
theorem Rep.one {v : V} {c : List D} (h : Rep v c) : Y4 c = true := by
  cases h with
  | mk hb hn h4 hr hL =>
    rcases hL with ⟨_,rfl⟩ | ⟨id,rfl,_⟩ <;> rfl
end
theorem Zz4 {α : Type} {F : α → List D → Prop} {z : Nat} {d : D} {xs : List α} (hr : Zaj F z d xs) : d.cells = [d] := by
  obtain ⟨cs,r,_,⟨rfl,rfl⟩ | ⟨id,rfl,_⟩⟩ := hr <;> rfl
theorem Zug : ∀ (z : Nat) (v : V),SizeOf.sizeOf v < z → ∀ c,Rep v c → ZR c c = true
  | 0,v,hz,c,h => absurd hz (Nat.not_lt_zero _)
  | z + 1,.mk k n b l,hz,c,h => by
    obtain ⟨L,rfl,_,cs,r,h4,hd⟩ := h.inv
    have hL : D.same L L = true := by
      rcases hd with ⟨rfl,rfl⟩ | ⟨id,rfl,_⟩
      · rfl
      · have : ZR cs.flatten cs.flatten = true := by
          have aux : ∀ (cs : List (List D)),(∀ c ∈ cs,ZR c c = true) → ZR cs.flatten cs.flatten = true := by
            intro cs
            induction cs with
            | nil => intro _; rfl
            | cons x cs ih =>
              intro hx
              rw [List.flatten_cons]
              exact Zql (hx x (List.mem_cons_self ..)) (ih fun y hy => hx y (List.mem_cons_of_mem _ hy))
          refine aux cs fun c hc => ?_
          obtain ⟨i,hi,rfl⟩ := List.getElem_of_mem hc
          have hil : i < l.length := by rw [← r.1]; exact hi
          exact Zug z l[i] (Nat.lt_of_lt_of_le (V.lt (List.getElem_mem hil)) (Nat.le_of_lt_succ hz)) _ (r.2 i _ _ (List.getElem?_eq_getElem hil) (List.getElem?_eq_getElem hi))
        simp only [D.same,Nat.beq_refl,this,Bool.and_self]
    simp only [ZL,XN,XM,hL,ZY,Bool.and_self]
theorem Zcf {d : D} {l : List V} (h : Zaj Rep 4 d l) : D.same d d = true := Z2k (fun x c hx => Zug _ x (Nat.lt_succ_self _) c hx) h
abbrev Zit : V := .mk 0 0 [] []
abbrev UW (n : Nat) : V := .mk 1 n [] []
abbrev mkB (b : List Nat) : V := .mk 2 0 b []
abbrev Zpt (l : List V) : V := .mk 3 0 [] l
abbrev Zy4 (l : List V) : V := .mk 4 0 [] l
theorem Zhi {k n : Nat} {b : List Nat} : Rep (.mk k n b []) [.int .i64 (.ofNat k),.int .u64 (.ofNat n),.str b,.v (.slice none 0 0)] := .of (by simp) Zaj.nil
theorem Zuh {k : Nat} {L : D} {l : List V} (hb : l.length ≤ 1000000) (h : Zaj Rep 4 L l) : Rep (.mk k 0 [] l) [.int .i64 (.ofNat k),.int .u64 (.ofNat 0),.str [],L] := .of hb h
def SlE {α : Type} (F : α → List D → Prop) (z : Nat) (d : D) (xs : List α) : Prop := ∃ cs,Rows F xs cs ∧ (∀ c ∈ cs,c.length = z) ∧ ((xs = [] ∧ d = .v (.slice none 0 0)) ∨ ∃ id,d = .sl id cs.length cs.flatten)
theorem SlE.len {α : Type} {F : α → List D → Prop} {z : Nat} {d : D} {xs : List α} (hr : SlE F z d xs) (h : H) : Zhp d h = .ok (.int .i64 (.ofNat xs.length)) h := by
  obtain ⟨cs,r,_,⟨rfl,rfl⟩ | ⟨id,rfl⟩⟩ := hr
  · rfl
  · rw [← r.1]; rfl
theorem Zo8 {z : Nat} : ∀ {cs : List (List D)} (_ : ∀ c ∈ cs,c.length = z) {m : Nat},cs.flatten.take (m * z) = (cs.take m).flatten
  | [],_,m => by simp
  | c :: r,h,0 => by simp
  | c :: r,h,m + 1 => by
    have h4 : c.length = z := h c (List.mem_cons_self ..)
    rw [List.flatten_cons,List.take_succ_cons,List.flatten_cons,← Zo8 (fun x hx => h x (List.mem_cons_of_mem _ hx)),Nat.succ_mul,Nat.add_comm,List.take_append,h4,List.take_of_length_le (by omega),Nat.add_sub_cancel_left]
theorem SlE.head {α : Type} {F : α → List D → Prop} {z : Nat} {d : D} {xs : List α} (hr : SlE F z d xs) {m : Nat} (hm : m ≤ xs.length) : ∃ d',(∀ h,Z0q z d (.int .i64 (.ofNat m)) h = .ok d' h) ∧ SlE F z d' (xs.take m) := by
  obtain ⟨cs,r,hz,hd⟩ := hr
  have hrows : Rows F (xs.take m) (cs.take m) := by
    refine ⟨by simp [r.1],fun i x c h1 h2 => ?_⟩
    have hi : i < m := by
      have := (List.getElem?_eq_some_iff.1 h1).1
      simp at this; omega
    rw [List.getElem?_take_of_lt hi] at h1 h2
    exact r.2 i x c h1 h2
  have hz' : ∀ c ∈ cs.take m,c.length = z := fun c hc => hz c (List.mem_of_mem_take hc)
  rcases hd with ⟨rfl,rfl⟩ | ⟨id,rfl⟩
  · have : m = 0 := by simpa using hm
    subst this
    exact ⟨_,fun h => Wg,cs.take 0,hrows,hz',.inl ⟨rfl,rfl⟩⟩
  · have hml : m ≤ cs.length := by rw [r.1]; exact hm
    refine ⟨_,fun h => Zsl hml,cs.take m,hrows,hz', ?_⟩
    unfold Zjr
    cases hb : Nat.beq m cs.length with
    | true =>
      have := Nat.eq_of_beq_eq_true hb
      subst this
      rw [List.take_length]
      exact .inr ⟨id,rfl⟩
    | false => exact .inr ⟨0,by rw [Zo8 hz,List.length_take,Nat.min_eq_left hml]; rfl⟩
end
section
variable {h : H} {Q : D → H → Prop} {R : ZM}
theorem bShl0 {ty : TypeId} {ox oy : Operand} {ka : IntKind} {a b : Int} : Zbl (Zcq E .shl ty ox oy (.int .u64 a) (.int ka b)) h "bin" = Z33 E (Op.shift .shl .u64 a ka b) h := rfl
theorem bShr0 {ty : TypeId} {ox oy : Operand} {ka : IntKind} {a b : Int} : Zbl (Zcq E .shr ty ox oy (.int .u64 a) (.int ka b)) h "bin" = Z33 E (Op.shift .shr .u64 a ka b) h := rfl
theorem bOr0 {ty : TypeId} {ox oy : Operand} {a b : Int} : Zbl (Zcq E .or ty ox oy (.int .u64 a) (.int .u64 b)) h "bin" = Z33 E (Op.intBits .or .u64 a b) h := rfl
theorem bShl {ty : TypeId} {ox oy : Operand} {ka : IntKind} {a n : Nat} : Zbl (Zcq E .shl ty ox oy (.int .u64 (.ofNat a)) (.int ka (.ofNat n))) h "bin" = .ok (.int .u64 (.ofNat (a * 2 ^ min n 64 % 18446744073709551616))) h := by
  have h0 : ¬ (Int.ofNat n < 0) := by intro h; have : (Int.ofNat n) = (n : Int) := rfl; omega
  have e1 : (Int.ofNat a) * 2 ^ (min (Int.ofNat n).toNat (IntKind.bits .u64)) = Int.ofNat (a * 2 ^ min n 64) := by
    show (a : Int) * 2 ^ (min n 64) = ((a * 2 ^ min n 64 : Nat) : Int)
    simp
  rw [bShl0]
  simp only [Op.shift,h0,if_false]
  rw [e1,Znh]
  rfl
theorem Z51 {ty : TypeId} {ox oy : Operand} {ka : IntKind} {a n : Nat} : Zbl (Zcq E .shr ty ox oy (.int .u64 (.ofNat a)) (.int ka (.ofNat n))) h "bin" = .ok (.int .u64 (.ofNat (a / 2 ^ min n 64))) h := by
  have h0 : ¬ (Int.ofNat n < 0) := by intro h; have : (Int.ofNat n) = (n : Int) := rfl; omega
  have e1 : (Int.ofNat a).fdiv (2 ^ (min (Int.ofNat n).toNat (IntKind.bits .u64))) = Int.ofNat (a / 2 ^ min n 64) := by
    have : (2 : Int) ^ (min (Int.ofNat n).toNat (IntKind.bits .u64)) = ((2 ^ min n 64 : Nat) : Int) := by
      show (2 : Int) ^ (min n 64) = _
      simp
    rw [this]
    show Int.fdiv (a : Int) _ = ((a / 2 ^ min n 64 : Nat) : Int)
    rw [Int.fdiv_eq_ediv_of_nonneg _ (Int.natCast_nonneg _)]
    simp
  rw [bShr0]
  simp only [Op.shift,h0,if_false]
  rw [e1]
  rfl
theorem bOr {ty : TypeId} {ox oy : Operand} {a b : Nat} (ha : a < 18446744073709551616) (hb : b < 18446744073709551616) : Zbl (Zcq E .or ty ox oy (.int .u64 (.ofNat a)) (.int .u64 (.ofNat b))) h "bin" = .ok (.int .u64 (.ofNat (a ||| b))) h := by
  rw [bOr0]
  have e : (BitVec.ofInt (IntKind.bits .u64) (Int.ofNat a) ||| BitVec.ofInt (IntKind.bits .u64) (Int.ofNat b)).toNat = a ||| b := by
    show (BitVec.ofInt 64 (a : Int) ||| BitVec.ofInt 64 (b : Int)).toNat = _
    rw [BitVec.toNat_or,BitVec.ofInt_natCast,BitVec.ofInt_natCast,BitVec.toNat_ofNat,BitVec.toNat_ofNat,Nat.mod_eq_of_lt ha,Nat.mod_eq_of_lt hb]
  have hlt : a ||| b < 18446744073709551616 := Nat.or_lt_two_pow (n := 64) ha hb
  have hw : IntKind.wrap .u64 (((a ||| b : Nat)) : Int) = Int.ofNat (a ||| b) := by
    show IntKind.wrap .u64 (Int.ofNat (a ||| b)) = _
    rw [Znh,Nat.mod_eq_of_lt hlt]
  simp only [Op.intBits,e,hw]
  rfl
end
end Run
end
end Go.Abs
