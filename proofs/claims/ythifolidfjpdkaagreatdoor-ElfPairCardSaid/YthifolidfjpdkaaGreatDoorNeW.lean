/- More rules for walks: fields of values, panics, closures, guarded operations of drawn regions; calls in the form of what holds behind them. -/
import Derived.Test.YthifolidfjpdkaaGreatDoorNdWay
set_option linter.unusedVariables false
set_option linter.unusedSimpArgs false
namespace Go.Abs
noncomputable section
abbrev mM (a b : Nat) (k : FR) : FR := fo (Zh (Gt a)) (St b) k
abbrev mL (a b : Nat) (k : FR) : FR := fo (Zl (Gt a)) (St b) k
abbrev mF (n a b : Nat) (k : FR) : FR := fo (u1 (Zt n) (Gt a)) (St b) k
abbrev mN (a b : Nat) (k : FR) : FR := fo (u1 Z4 (Gt a)) (St b) k
abbrev mE (n a b : Nat) (k : FR) : FR := fo (u1 (Xe n) (Gt a)) (St b) k
abbrev mK (f : Nat) (l : List (Tr D → D)) (b : Nat) (k : FR) : FR := fo (Zw f l) (St b) k
abbrev mS (a : Nat) (g : Tr D → D) (k : FR) : FR := fo (ZF 1 (Gt a) g) p0 k
abbrev kI (n : Nat) : Tr D → D := kD (.int .i64 (.ofNat n))
abbrev kS (s : List Nat) : Tr D → D := kD (.str s)
abbrev mQ (t a n : Nat) : Zcz := Za YG .eql t (.tmp a) (.const (.int .i64 (.ofNat n))) (Gt a) (kD (.int .i64 (.ofNat n)))
abbrev mR (t a n : Nat) : Zcz := Za Wo .neq t (.tmp a) (.const (.int .i64 (.ofNat n))) (Gt a) (kD (.int .i64 (.ofNat n)))
section
variable {E : Env} {T : Nat → ZV} {p : D → Tr D → Tr D} {k : FR} {kd : FD} {recs : List Rec} {t : Tr D} {h : H} {Q : UU} {R : ZM} {g g1 g2 g3 : Tr D → D} {i : Nat} {inc : List Nat}
def oHd : List D → Option D
  | d :: _ => some d
  | [] => none
def oAg : Option (List D) → Option D
  | some cs => some (.agg cs)
  | none => none
def Z4b (ag : Bool) (off n : Nat) (d : D) (h : H) : O D :=
  match d with
  | .agg cs => Zbl (bif ag then oAg (Zps (cs.drop off) n) else oHd (cs.drop off)) h "field"
  | _ => .fail "field"
theorem Wx {d : D} {r : List D} : oHd (d :: r) = some d := rfl
theorem Wz {cs : List D} : oAg (some cs) = some (.agg cs) := rfl
theorem Zuq (ag : Bool) (n : Nat) (cs : List D) (off : Nat) : Zka ag n cs off = bif ag then oAg (Zps (cs.drop off) n) else oHd (cs.drop off) := by
  cases ag with
  | true =>
    simp only [Zka,cond_true,Zps]
    cases Nat.beq ((cs.drop off).take n).length n <;> rfl
  | false => simp only [Zka,cond_false]; cases cs.drop off <;> rfl
theorem Zy2 {ag : Bool} {off n : Nat} {d : D} (hd : d = g t) : Zn9 ag off n (.d d) E Zu (act t) h = Z4b ag off n d h := by
  cases d <;> simp only [Zn8,Zd6,Z4b,AAct.eval,Zuq]
theorem Wy {ag : Bool} {off n : Nat} {cs : List D} : Z4b ag off n (.agg cs) h = Zbl (bif ag then oAg (Zps (cs.drop off) n) else oHd (cs.drop off)) h "field" := rfl
theorem Zam {ag : Bool} {off n : Nat} : VR E T (fo (u1 (Zn9 ag off n) g) p k) t h Q R ↔ vO E T (Z4b ag off n (g t) h) p k t Q R := by
  rw [← Zy2 (E := E) rfl]; exact Xc fun _ => rfl
theorem Zar {ag : Bool} {off n : Nat} : VD E T (Ze (u1 (Zn9 ag off n) g) p kd) recs t h Q R ↔ vD E T (Z4b ag off n (g t) h) p kd recs t Q R := by
  rw [← Zy2 (E := E) rfl]; exact VQ fun _ => rfl
theorem Wq {ty : TypeId} : VR E T (fo (u1 (U5 ty) g) p k) t h Q R ↔ VR E T k (p (.iface ty (g t)) t) h Q R := Xc fun _ => rfl
def oPan (d : D) (h : H) : O D :=
  match d with
  | .iface t d => .panic (.iface t d) h
  | _ => .fail "panic"
theorem Za9 {ty : TypeId} {d : D} : oPan (.iface ty d) h = .panic (.iface ty d) h := rfl
theorem Wp : VR E T (fo (u1 US g) p k) t h Q R ↔ vO E T (oPan (g t) h) p k t Q R := Xc fun _ => rfl
theorem Uc {fn : Fn} {xs ys : List (Tr D → D)} : VR E T (fo (Zxn fn xs ys) p k) t h Q R ↔ VR E T k (p (.func fn (Zky xs t) (Zky ys t)) t) h Q R := Xc fun _ => rfl
theorem Zap {fn : Fn} {xs ys : List (Tr D → D)} : VD E T (Ze (Zxn fn xs ys) p kd) recs t h Q R ↔ VD E T kd recs (p (.func fn (Zky xs t) (Zky ys t)) t) h Q R := VQ fun _ => rfl
def Z1y (E : Env) (T : Nat → ZV) (b : Bool) (y : FD → FD) (p : D → Tr D → Tr D) (kd : FD) (recs : List Rec) (t : Tr D) (h : H) (Q : UU) (R : ZM) : Prop := bif b then VD E T (y kd) recs t h Q R else VD E T kd recs (p ZD t) h Q R
@[congr] theorem vDg_congr {b b' : Bool} {y : FD → FD} {recs' : List Rec} {t' : Tr D} {h' : H} (hb : b = b') (hr : recs = recs') (ht : t = t') (hh : h = h') : Z1y E T b y p kd recs t h Q R = Z1y E T b' y p kd recs' t' h' Q R := by rw [hb,hr,ht,hh]
theorem Zes {y : FD → FD} : Z1y E T true y p kd recs t h Q R ↔ VD E T (y kd) recs t h Q R := Iff.rfl
theorem Zet {y : FD → FD} : Z1y E T false y p kd recs t h Q R ↔ VD E T kd recs (p ZD t) h Q R := Iff.rfl
theorem Zas {w : Bool} {y : FD → FD} : VD E T (Zfv g w y p kd) recs t h Q R ↔ Z1y E T (wanted (g t) w) y p kd recs t h Q R := by
  unfold Z1y VD Zl8
  cases hw : wanted (g t) w <;> simp only [Zfv,hw,cond_true,cond_false]
theorem Zao {g : Tr D → D} : VD E T (Ze (u1 (Ze7 .not) g) p kd) recs t h Q R ↔ vD E T (oNot E (g t) h) p kd recs t Q R := VQ fun _ => rfl
theorem Vz : VD E T (Ze (Yb g1 g2 g3) p kd) recs t h Q R ↔ vD E T (Zyx (g1 t) (g2 t) (g3 t) h) p kd recs t Q R := by rw [← Zzd (E := E) (c := Zu)]; exact VQ fun _ => rfl
theorem Zaq : VD E T (Ze (u1 Yy g) p kd) recs t h Q R ↔ vD E T (Zhp (g t) h) p kd recs t Q R := by rw [← Zym (E := E) (c := Zu) (a := act t)]; exact VQ fun _ => rfl
theorem VA : VD E T (Ze (u1 Vm g) p kd) recs t h Q R ↔ vD E T (Zyy (g t) h) p kd recs t Q R := by rw [← Zuk (E := E) (c := Zu) (a := act t)]; exact VQ fun _ => rfl
theorem Zat {ty : TypeId} : VD E T (Ze (Zai ty g) p kd) recs t h Q R ↔ VD E T kd recs (p (.ptr h.next 0) t) (Vr h (.cells ty (g t).cells)) Q R := by rw [← Zdz]; exact VQ fun _ => rfl
theorem Vy {op : BinOp} {ty : TypeId} {ox oy : Operand} : VD E T (Ze (Zr7 op ty ox oy g1 g2) p kd) recs t h Q R ↔ vD E T (Zbl (Zcq E op ty ox oy (g1 t) (g2 t)) h "bin") p kd recs t Q R := VQ fun _ => rfl
theorem Vc {i : Nat} {inc : List Nat} {f : Nat} {gs : List (Tr D → D)} (hc : VC E T f (Zky gs t) h (fun d h' => YJ inc h' recs = true ∧ VD E T kd (.loud i h :: recs) (p d t) h' Q R) R) : VD E T (Zju i inc (Zw f gs) p kd) recs t h Q R := by
  obtain ⟨o,⟨M,hM⟩,ho⟩ := hc
  cases o with
  | ok d h1 =>
    obtain ⟨hb,x,⟨N,hN⟩,hq⟩ := ho
    refine ⟨x,⟨N + M,fun m hm => ?_⟩,hq⟩
    show O.casesOn (motive := fun _ => XT) (ZI E T m f (Zky gs t) h) _ _ _ = x
    rw [hM m (by omega)]
    simp only [Zfe,hb,cond_true]
    exact hN m (by omega)
  | panic d h' =>
    refine ⟨.panic d h',⟨M,fun m hm => ?_⟩,ho⟩
    show O.casesOn (motive := fun _ => XT) (ZI E T m f (Zky gs t) h) _ _ _ = _
    rw [hM m hm]
  | fail w => exact ho.elim
def Zy1 (x i : D) (h : H) : O D :=
  match x,i with
  | .str s,.int _ (.ofNat i) => Zbl (match s.drop i with | b :: _ => some (.int .u8 (.ofNat b)) | [] => none) h "index: string"
  | _,_ => .fail "index: string"
theorem Zuv {x y : D} : Zjf (.d x) (.d y) E Zu (act t) h = Zy1 x y h := by
  cases x <;> try rfl
  cases y <;> try rfl
  rename_i s kk n
  cases n with
  | negSucc n => rfl
  | ofNat n =>
    simp only [Zlf,Za4,Zy1,AAct.eval]
    cases s.drop n <;> rfl
theorem Vw : VR E T (fo (u2 Zjf g1 g2) p k) t h Q R ↔ vO E T (Zy1 (g1 t) (g2 t) h) p k t Q R := by
  rw [← Zuv (E := E)]; exact Xc fun _ => rfl
theorem VB : VD E T (Ze (u2 Zjf g1 g2) p kd) recs t h Q R ↔ vD E T (Zy1 (g1 t) (g2 t) h) p kd recs t Q R := by
  rw [← Zuv (E := E)]; exact VQ fun _ => rfl
theorem VG {ty : TypeId} {ox oy : Operand} {a b : List Nat} : Zha E YG .eql ty ox oy (.str a) (.str b) h = .ok (.v (.bool (UQ a b))) h := rfl
theorem Ww {ty : TypeId} {ox oy : Operand} {a b : List Nat} : Zha E Wo .neq ty ox oy (.str a) (.str b) h = .ok (.v (.bool (!UQ a b))) h := rfl
theorem Xm (a b : List Nat) : UQ a b = decide (a = b) := by
  induction a generalizing b with
  | nil => cases b <;> simp [UQ]
  | cons x a ih =>
    cases b with
    | nil => simp [UQ]
    | cons y b => simp only [UQ,ih,List.cons.injEq,Bool.decide_and,Xi]
theorem ZW {m n : Nat} (hn : n ≤ m) (hm : m ≤ 9223372036854775807) : Zff .i64 (.ofNat m) (.ofNat n) = .int .i64 (.ofNat (m - n)) := by
  have e : Z4v (.ofNat m) (.ofNat n) = .ofNat (m - n) := by rw [Zsv]; simp; omega
  simp only [Zff,e,Zf8 (show m - n ≤ 9223372036854775807 by omega)]
def Arr (z : Nat) (d : D) (cs : List (List D)) : Prop := (∀ c ∈ cs,c.length = z) ∧ ((cs = [] ∧ d = .v (.slice none 0 0)) ∨ ∃ id,d = .sl id cs.length cs.flatten)
theorem Zrc {z : Nat} : ∀ {cs : List (List D)},(∀ c ∈ cs,c.length = z) → cs.flatten.length = cs.length * z
  | [],_ => by simp
  | c :: r,h => by
    rw [List.flatten_cons,List.length_append,Zrc fun x hx => h x (List.mem_cons_of_mem _ hx),h c (List.mem_cons_self ..),List.length_cons,Nat.succ_mul]
    omega
theorem Zgs {z : Nat} : ∀ {cs : List (List D)} (h : ∀ c ∈ cs,c.length = z) {i : Nat} (hi : i < cs.length),cs.flatten.drop (i * z) = cs[i] ++ (cs.drop (i + 1)).flatten
  | [],_,i,hi => by cases hi
  | c :: r,h,0,_ => by simp
  | c :: r,h,i + 1,hi => by
    have h4 : c.length = z := h c (List.mem_cons_self ..)
    rw [List.flatten_cons,List.getElem_cons_succ,List.drop_succ_cons,← Zgs (fun x hx => h x (List.mem_cons_of_mem _ hx)) (Nat.lt_of_succ_lt_succ hi),Nat.succ_mul,Nat.add_comm,← h4,← List.drop_drop,List.drop_left]
theorem Arr.len {z : Nat} {d : D} {cs : List (List D)} (ha : Arr z d cs) : Zhp d h = .ok (.int .i64 (.ofNat cs.length)) h := by
  rcases ha.2 with ⟨rfl,rfl⟩ | ⟨id,rfl⟩ <;> rfl
theorem Arr.at {z : Nat} {d : D} {cs : List (List D)} (ha : Arr z d cs) (hz : 0 < z) {kk : IntKind} {i : Nat} (hi : i < cs.length) {c : List D} (hc : cs[i]? = some c) : Zci z d (.int kk (.ofNat i)) h = .ok (.ep (c ++ (cs.drop (i + 1)).flatten)) h := by
  have hc' : cs[i] = c := by rw [List.getElem?_eq_getElem hi] at hc; exact Option.some.inj hc
  rcases ha.2 with ⟨rfl,rfl⟩ | ⟨id,rfl⟩
  · cases hi
  · have hr := Zgs ha.1 hi
    have hl := ha.1 _ (List.getElem_mem hi)
    rw [hc'] at hr hl
    cases c with
    | nil => simp at hl; omega
    | cons a r => exact UT hi hr
end
end
end Go.Abs
namespace Go.Abs
noncomputable section
section
variable {E : Env} {T : Nat → ZV} {p : D → Tr D → Tr D} {k : FR} {kd : FD} {recs : List Rec} {t : Tr D} {h : H} {Q : UU} {R : ZM} {a b : FC} {i : Nat} {inc : List Nat}
@[congr] theorem VC_congr {f : Nat} {args args' : List D} {h' : H} {Q : D → H → Prop} (ha : args = args') (hh : h = h') : VC E T f args h Q R = VC E T f args' h' Q R := by rw [ha,hh]
theorem Zbt {P : Prop} [Decidable P] (h1 : P → VP E T a t h Q R) (h2 : ¬ P → VP E T b t h Q R) : vB E T (.v (.bool (decide P))) a b t h Q R := by
  by_cases hp : P
  · rw [decide_eq_true hp]; exact h1 hp
  · rw [decide_eq_false hp]; exact h2 hp
theorem U3 {P : Prop} [Decidable P] (h1 : P → VP E T b t h Q R) (h2 : ¬ P → VP E T a t h Q R) : vB E T (.v (.bool (!decide P))) a b t h Q R := by
  by_cases hp : P
  · rw [decide_eq_true hp]; exact h1 hp
  · rw [decide_eq_false hp]; exact h2 hp
theorem Xj {w : Bool} : wanted (.v (.bool true)) w = w := rfl
theorem Xk {w : Bool} : wanted (.v (.bool false)) w = !w := by cases w <;> rfl
theorem Zbs {P : Prop} [Decidable P] {w : Bool} {f : Zcz} (h1 : P → vG E T w f p k t h Q R) (h2 : ¬ P → vG E T (!w) f p k t h Q R) : vG E T (wanted (.v (.bool (decide P))) w) f p k t h Q R := by
  by_cases hp : P
  · rw [decide_eq_true hp,Xj]; exact h1 hp
  · rw [decide_eq_false hp,Xk]; exact h2 hp
theorem U1 {P : Prop} [Decidable P] {w : Bool} {f : Zcz} (h1 : P → vG E T (!w) f p k t h Q R) (h2 : ¬ P → vG E T w f p k t h Q R) : vG E T (wanted (.v (.bool (!decide P))) w) f p k t h Q R := by
  by_cases hp : P
  · rw [decide_eq_true hp,Bool.not_true,Xk]; exact h1 hp
  · rw [decide_eq_false hp,Bool.not_false,Xj]; exact h2 hp
theorem U2 {P : Prop} [Decidable P] {w : Bool} {y : FD → FD} (h1 : P → Z1y E T w y p kd recs t h Q R) (h2 : ¬ P → Z1y E T (!w) y p kd recs t h Q R) : Z1y E T (wanted (.v (.bool (decide P))) w) y p kd recs t h Q R := by
  by_cases hp : P
  · rw [decide_eq_true hp,Xj]; exact h1 hp
  · rw [decide_eq_false hp,Xk]; exact h2 hp
theorem Vd {P : Prop} [Decidable P] {w : Bool} {y : FD → FD} (h1 : P → Z1y E T (!w) y p kd recs t h Q R) (h2 : ¬ P → Z1y E T w y p kd recs t h Q R) : Z1y E T (wanted (.v (.bool (!decide P))) w) y p kd recs t h Q R := by
  by_cases hp : P
  · rw [decide_eq_true hp,Bool.not_true,Xk]; exact h1 hp
  · rw [decide_eq_false hp,Bool.not_false,Xj]; exact h2 hp
def Zzt (E : Env) (T : Nat → ZV) (a : FC) (Q : UU) (R : ZM) : UU := fun e t h =>
  match e with
  | .normal => VP E T (Xy a) t h Q R
  | .exit i => Q (.exit i) t h
  | .ret => Q .ret t h
theorem VI : Zzt E T a Q R .normal t h ↔ VP E T (Xy a) t h Q R := Iff.rfl
theorem VJ : Zzt E T a Q R (.exit i) t h ↔ Q (.exit i) t h := Iff.rfl
theorem VH : Zzt E T a Q R .ret t h ↔ Q .ret t h := Iff.rfl
theorem Zan (hq : VP E T a t h (Zzt E T a Q R) R) : VP E T (Xy a) t h Q R := by
  obtain ⟨x,hr,hq⟩ := hq
  cases x with
  | out e t1 h1 => cases e with
    | normal =>
      obtain ⟨x,hr',hq⟩ := hq
      exact ⟨_,Zqn hr hr',hq⟩
    | exit i => exact ⟨_,Zb6 hr trivial,hq⟩
    | ret => exact ⟨_,Zb6 hr trivial,hq⟩
  | panic d h1 => exact ⟨_,Zix hr,hq⟩
  | fail w => exact hq.elim
def Z4a (ag : Bool) (n size : Nat) (x i : D) (h : H) : O D := Zn7 ag n size (.d x) (.d i) E Zu (act .nil) h
def Z35 (o : Option D) (h : H) : O D := Zbl o h "index: value"
theorem VF {n size j : Nat} {kk : IntKind} {cs : List D} (hj : j < n) : Z4a (E := E) false n size (.agg cs) (.int kk (.ofNat j)) h = Z35 (oHd (cs.drop (j * size))) h := by
  have e : Nat.blt j n = true := by rw [Nat.blt_eq]; exact hj
  simp only [Z4a,Zlg,Za5,AAct.eval,U9,e,cond_true,Zuq,cond_false,Z35]
theorem YO {d : D} : Z35 (some d) h = .ok d h := rfl
theorem Vx {g1 g2 : Tr D → D} {ag : Bool} {n size : Nat} : VR E T (fo (u2 (Zn7 ag n size) g1 g2) p k) t h Q R ↔ vO E T (Z4a (E := E) ag n size (g1 t) (g2 t) h) p k t Q R := Xc fun _ => rfl
theorem YP {ty : TypeId} {ox oy : Operand} {x y : List Nat} (hl : x.length + y.length ≤ 140737488355328) : Zha E YS .add ty ox oy (.str x) (.str y) h = .ok (.str (x ++ y)) h := by
  simp only [Zha,Z9a hl,Zbl]
end
end
end Go.Abs
namespace Go.Abs
noncomputable section
section
variable {E : Env} {T : Nat → ZV} {p : D → Tr D → Tr D} {k : FR} {kd : FD} {recs : List Rec} {t : Tr D} {h : H} {Q : UU} {R : ZM} {i : Nat} {inc : List Nat}
def vCd (E : Env) (T : Nat → ZV) (d : D) (args : List D) (h : H) (F : D → H → Prop) (R : ZM) : Prop :=
  match d with
  | .func (.func f) xs ys => VC E T f (xs ++ args ++ ys) h F R
  | .v (.func (.func f) a b) => VC E T f (a.toList.map .of ++ args ++ b.toList.map .of) h F R
  | _ => False
@[congr] theorem vCd_congr {d d' : D} {args args' : List D} {h' : H} {F : D → H → Prop} (hd : d = d') (ha : args = args') (hh : h = h') : vCd E T d args h F R = vCd E T d' args' h' F R := by rw [hd,ha,hh]
theorem Ws {f : Nat} {xs ys args : List D} {F : D → H → Prop} : vCd E T (.func (.func f) xs ys) args h F R ↔ VC E T f (xs ++ args ++ ys) h F R := Iff.rfl
theorem Zeu {f : Nat} {a b : Array Value} {args : List D} {F : D → H → Prop} : vCd E T (.v (.func (.func f) a b)) args h F R ↔ VC E T f (a.toList.map .of ++ args ++ b.toList.map .of) h F R := Iff.rfl
def Rows {α : Type} (F : α → List D → Prop) (xs : List α) (cs : List (List D)) : Prop := cs.length = xs.length ∧ ∀ (i : Nat) (x : α) (c : List D),xs[i]? = some x → cs[i]? = some c → F x c
def Zaj {α : Type} (F : α → List D → Prop) (z : Nat) (d : D) (xs : List α) : Prop := ∃ cs,Rows F xs cs ∧ (∀ c ∈ cs,c.length = z) ∧ ((xs = [] ∧ d = .v (.slice none 0 0)) ∨ ∃ id,d = .sl id cs.length cs.flatten ∧ xs ≠ [])
theorem Rows.nil {α : Type} {F : α → List D → Prop} : Rows F [] [] := ⟨rfl,fun i x c h => by simp at h⟩
theorem Rows.snoc {α : Type} {F : α → List D → Prop} {xs : List α} {cs : List (List D)} {x : α} {c : List D} (hr : Rows F xs cs) (hx : F x c) : Rows F (xs ++ [x]) (cs ++ [c]) := by
  refine ⟨by simp [hr.1],fun i y d h1 h2 => ?_⟩
  by_cases hi : i < xs.length
  · rw [List.getElem?_append_left hi] at h1
    rw [List.getElem?_append_left (by rw [hr.1]; exact hi)] at h2
    exact hr.2 i y d h1 h2
  · rw [List.getElem?_append_right (by omega)] at h1
    rw [List.getElem?_append_right (by rw [hr.1]; omega),hr.1] at h2
    have : i - xs.length = 0 := by
      by_cases h0 : i - xs.length = 0
      · exact h0
      · rw [List.getElem?_eq_none (by simp; omega)] at h1; cases h1
    rw [this] at h1 h2
    simp at h1 h2
    subst h1; subst h2
    exact hx
theorem Zaj.nil {α : Type} {F : α → List D → Prop} {z : Nat} : Zaj F z (.v (.slice none 0 0)) [] := ⟨[],Rows.nil,by simp,.inl ⟨rfl,rfl⟩⟩
theorem Zaj.len {α : Type} {F : α → List D → Prop} {z : Nat} {d : D} {xs : List α} (hr : Zaj F z d xs) (h : H) : Zhp d h = .ok (.int .i64 (.ofNat xs.length)) h := by
  obtain ⟨cs,r,_,⟨rfl,rfl⟩ | ⟨id,rfl,_⟩⟩ := hr
  · rfl
  · rw [← r.1]; rfl
end
end
end Go.Abs
namespace Go.Abs
noncomputable section
theorem Zez {ty : TypeId} {cs : List D} {off n : Nat} : oRd (some (.cells ty cs)) off n = Zps (cs.drop off) n := rfl
def oStw (o : Option AObj) (l off n : Nat) (x : D) (h : H) : O D :=
  match o with
  | some (.cells t cs) => bif Nat.beq x.cells.length n && Y4 x.cells then (match patch cs off x.cells with
    | some cs => .ok ZD (YF h l (.cells t cs))
    | none => .fail "store") else .fail "store"
  | _ => .fail "store"
theorem VE {n l off : Nat} {x : D} {h : H} : oSt n (.ptr l off) x h = oStw (hget h.mem l) l off n x h := rfl
theorem Za8 {ty : TypeId} {cs : List D} {l off n : Nat} {x : D} {h : H} : oStw (some (.cells ty cs)) l off n x h = bif Nat.beq x.cells.length n && Y4 x.cells then (match patch cs off x.cells with
    | some cs => .ok ZD (YF h l (.cells ty cs))
    | none => .fail "store") else .fail "store" := rfl
theorem zc {G A : Prop} (a : A) (f : A → G := by with_reducible (first | exact Yc | exact Yd | exact Xo | exact Xn | exact Yf | exact ZQ | exact Ye | exact Xp | exact Vl | exact Vc | exact U0)) : G := f a
theorem zb {G A B : Prop} (a : A) (b : B) (f : A → B → G := by with_reducible (first | exact Zbt | exact U3 | exact Zbs | exact U1 | exact U2 | exact Vd)) : G := f a b
theorem zd {G : Prop} (g : G := by with_reducible (first | assumption | omega | (simp only [Z8,Z7,List.length_cons,List.length_nil,List.length_append,List.length_take,List.length_drop]; omega))) : G := g
theorem ze {G : Prop} (g : G := by with_reducible (first | assumption | exact trivial | (show _ < _; omega) | (show _ ≤ _; omega) | (show ¬ (_ : Nat) = _; omega) | (show (_ : Nat) ≠ _; omega) | (show (_ : Nat) = _; omega))) : G := g
end
end Go.Abs
namespace Go.Abs
noncomputable section
def own (d : D) (l : Nat) : Prop :=
  match d with
  | .sl id _ _ => l = id
  | _ => False
def Zfq (d : D) (l : Nat) : Prop := ¬ own d l
theorem Wk {l : Nat} : Zfq (.v (.slice none 0 0)) l := fun h => h
theorem Z3x {id n : Nat} {cs : List D} {l : Nat} : own (.sl id n cs) l ↔ l = id := Iff.rfl
def Tp (h : H) (ty : TypeId) (d : D) (n : Nat) : Prop := ∀ l : Nat,own d l → l < h.next ∧ hget h.mem l = some (.tip n ty)
theorem Tp.mono {h h' : H} {ty : TypeId} {d : D} {n : Nat} (ht : Tp h ty d n) (hn : h.next ≤ h'.next) (hf : ∀ l : Nat,own d l → l < h.next → hget h'.mem l = hget h.mem l) : Tp h' ty d n := fun l hl => ⟨Nat.lt_of_lt_of_le (ht l hl).1 hn,(hf l hl (ht l hl).1).trans (ht l hl).2⟩
def Bnd (d : D) (n : Nat) : Prop := ∀ l,own d l → l < n
def Ztc (d' d : D) (n : Nat) : Prop := ∀ l,l < n → (Zfq d' l ↔ Zfq d l)
theorem Tp.bnd {h : H} {ty : TypeId} {d : D} {n : Nat} (ht : Tp h ty d n) : Bnd d h.next := fun l hl => (ht l hl).1
theorem Ztc.refl {d : D} {n : Nat} : Ztc d d n := fun l _ => Iff.rfl
theorem Ztc.trans {d2 d1 d : D} {n m : Nat} (h2 : Ztc d2 d1 m) (hm : n ≤ m) (h1 : Ztc d1 d n) : Ztc d2 d n := fun l hl => (h2 l (by omega)).trans (h1 l hl)
theorem Tp.nil {h : H} {ty : TypeId} {n : Nat} : Tp h ty (.v (.slice none 0 0)) n := fun l hl => hl.elim
theorem Tp_mk {h : H} {ty : TypeId} {id n k : Nat} {cs : List D} (h1 : id < h.next) (h2 : hget h.mem id = some (.tip n ty)) : Tp h ty (.sl id k cs) n := fun l hl => by
  rw [Z3x] at hl
  subst hl
  exact ⟨h1,h2⟩
section
theorem Zaj.app {α : Type} {F : α → List D → Prop} {z e bytes m : Nat} {d : D} {xs : List α} {x : α} {c : List D} {h : H} (hr : Zaj F z d xs) (ht : Tp h e d xs.length) (hx : F x c) (hz : c.length = z) (z0 : 0 < z) (ho : Y4 c = true) (hs : xs.length ≤ 1000000) (hb : bytes ≤ 1000) :
    ∃ id cs h',Zjk e z bytes d (.sl m 1 c) h = .ok (.sl id (xs.length + 1) cs) h' ∧ Zaj F z (.sl id (xs.length + 1) cs) (xs ++ [x]) ∧ Tp h' e (.sl id (xs.length + 1) cs) (xs.length + 1) ∧ h.next ≤ h'.next ∧ (∀ l : Nat,l < h.next → Zfq d l → hget h'.mem l = hget h.mem l) ∧ Ztc (.sl id (xs.length + 1) cs) d h.next := by
  obtain ⟨cs,r,hcs,⟨rfl,rfl⟩ | ⟨id,rfl,hne⟩⟩ := hr
  · have hb' : 1 * bytes ≤ 140737488355328 := by omega
    refine ⟨_,_,_,Zhq (by omega) ho (by rw [hz]; omega) z0 hb' (by omega),⟨[c], ?_, ?_,.inr ⟨h.next, ?_,by simp⟩⟩, ?_, ?_, ?_, ?_⟩
    · have := Rows.snoc (F := F) Rows.nil hx; simpa using this
    · simp [hz]
    · simp
    · exact Tp_mk (by simp only [Z8]; simp) (YE rfl)
    · simp only [Z8]; omega
    · intro l hl _
      exact Zi (by omega)
    · intro l hl
      exact ⟨fun _ => Wk,fun _ he => by rw [Z3x] at he; omega⟩
  · have hid := ht id rfl
    have hb' : (cs.length + 1) * bytes ≤ 140737488355328 := by
      have : (cs.length + 1) * bytes ≤ 1000001 * 1000 := Nat.mul_le_mul (by have := r.1; omega) hb
      omega
    have hfl : cs.flatten.length = cs.length * z := Zrc hcs
    rw [← r.1] at hid
    rw [← r.1]
    refine ⟨id,_,_,Zm9 hid.2 (by omega) ho (by rw [hz]; omega) hfl z0 hb' (by have := r.1; omega),⟨cs ++ [c],r.snoc hx, ?_,.inr ⟨id, ?_,by simp⟩⟩, ?_, ?_, ?_, ?_⟩
    · intro y hy
      rcases List.mem_append.1 hy with hy | hy
      · exact hcs y hy
      · simp at hy; subst hy; exact hz
    · simp
    · exact Tp_mk (by simp only [Z7]; exact hid.1) Zb
    · simp only [Z7]; omega
    · intro l hl hne
      exact Z9 fun he => hne he
    · intro l hl
      exact Iff.rfl
end
section
variable {E : Env} {T : Nat → ZV} {p : D → Tr D → Tr D} {k : FR} {kd : FD} {recs : List Rec} {t : Tr D} {h h0 : H} {Q : UU} {R : ZM} {i : Nat} {inc : List Nat}
def Z58 (P : Prop) : Prop := P
@[congr] theorem Later_congr {P : Prop} : Z58 P = Z58 P := rfl
theorem Vp {a : FC} (I : Nat → Tr D → H → Prop) {n : Nat} (hi : I n t h) (hb : Z58 (∀ n t h,I n t h → VP E T a t h (Zrs I n Q) R)) : VP E T (Xy a) t h Q R := Zyb I hi hb
theorem Zrp : ∀ l : List Nat,UQ l l = true := fun l => by rw [Xm]; exact decide_eq_true rfl
theorem Wu : D.same (.v (.slice none 0 0)) (.v (.slice none 0 0)) = true := rfl
theorem ZY : ZR [] [] = true := rfl
theorem ZL {a b : D} {x y : List D} : ZR (a :: x) (b :: y) = (D.same a b && ZR x y) := by simp only [ZR]
theorem Wt {a b : Nat} : D.same (.ptr a b) (.ptr a b) = true := by simp only [D.same,Nat.beq_refl,Bool.and_self]
theorem XN {k : IntKind} {a : Int} : D.same (.int k a) (.int k a) = true := by simp only [D.same,decide_true,Bool.and_self]
theorem XM {a : List Nat} : D.same (.str a) (.str a) = true := by simp only [D.same,Zrp]
theorem Zql {a b c d : List D} (h1 : ZR a c = true) (h2 : ZR b d = true) : ZR (a ++ b) (c ++ d) = true := by
  induction a generalizing c with
  | nil => cases c with
    | nil => exact h2
    | cons y c => simp [ZR] at h1
  | cons x a ih => cases c with
    | nil => simp [ZR] at h1
    | cons y c =>
      simp only [List.cons_append,ZL,Bool.and_eq_true] at h1 ⊢
      exact ⟨h1.1,ih h1.2⟩
theorem Zqp {α : Type} {F : α → List D → Prop} (hF : ∀ x c,F x c → ZR c c = true) : ∀ {cs : List (List D)} {xs : List α},Rows F xs cs → ZR cs.flatten cs.flatten = true
  | [],_,_ => rfl
  | c :: r,[],h => by have := h.1; simp at this
  | c :: r,x :: xs,h => by
    have hc := h.2 0 x c rfl rfl
    have hr : Rows F xs r := ⟨by have := h.1; simpa using this,fun i y d h1 h2 => h.2 (i + 1) y d (by simpa using h1) (by simpa using h2)⟩
    simp only [List.flatten_cons]
    exact Zql (hF x c hc) (Zqp hF hr)
theorem Z2k {α : Type} {F : α → List D → Prop} (hF : ∀ x c,F x c → ZR c c = true) {z : Nat} {d : D} {xs : List α} (hr : Zaj F z d xs) : D.same d d = true := by
  obtain ⟨cs,r,_,⟨rfl,rfl⟩ | ⟨id,rfl,hne⟩⟩ := hr
  · rfl
  · simp only [D.same,Nat.beq_refl,Zqp hF r,Bool.and_self]
theorem Zs {α : Type} {F : α → List D → Prop} {z : Nat} {d : D} {xs : List α} (hr : Zaj F z d xs) : d.one = true := by
  obtain ⟨cs,r,_,⟨rfl,rfl⟩ | ⟨id,rfl,hne⟩⟩ := hr <;> rfl
def Z9m (n : Nat) (c : List D) : Prop := c = [.int .i64 (.ofNat n)]
theorem Zry {α : Type} {F : α → List D → Prop} {z e bytes m : Nat} {d : D} {xs : List α} {x : α} {c : List D} (hr : Zaj F z d xs) (ht : Tp h e d xs.length) (hx : F x c) (hz : c.length = z) (z0 : 0 < z) (ho : Y4 c = true) (hs : xs.length ≤ 1000000) (hb : bytes ≤ 1000)
    (hq : ∀ id cs h',Zaj F z (.sl id (xs.length + 1) cs) (xs ++ [x]) → Tp h' e (.sl id (xs.length + 1) cs) (xs.length + 1) → h.next ≤ h'.next → Bnd (.sl id (xs.length + 1) cs) h'.next → (∀ l : Nat,l < h.next → Zfq d l → hget h'.mem l = hget h.mem l) → Ztc (.sl id (xs.length + 1) cs) d h.next → VR E T k (p (.sl id (xs.length + 1) cs) t) h' Q R) : vO E T (Zjk e z bytes d (.sl m 1 c) h) p k t Q R := by
  obtain ⟨id,cs,h',e1,a1,a2,a3,a5,a6⟩ := hr.app (m := m) ht hx hz z0 ho hs hb
  rw [e1]; exact hq id cs h' a1 a2 a3 a2.bnd a5 a6
end
end
end Go.Abs
namespace Go.Abs
noncomputable section
section
variable {E : Env} {T : Nat → ZV} {p : D → Tr D → Tr D} {k : FR} {kd : FD} {recs : List Rec} {t : Tr D} {h h0 : H} {Q : UU} {R : ZM} {i : Nat} {inc : List Nat}
theorem Z13 {e : TypeId} {g : Tr D → D} : VR E T (fo (u1 (Zn4 e) g) p k) t h Q R ↔ vO E T (Z7x (g t) h) p k t Q R := by
  rw [show Z7x (g t) h = (u1 (Zn4 e) g) E Zu t h by cases hg : g t <;> simp only [Z7x,u1,Zn3,Zd4,AAct.eval,hg]]
  exact Xc fun _ => rfl
theorem Zuu {l : List Nat} : Z7x (.str l) h = .ok (.sl 0 l.length (Yz l)) h := rfl
theorem Z80 {s : List Nat} {n : Nat} (hn : n < s.length) : s.drop n = s.getD n 0 :: s.drop (n + 1) := by
  rw [List.drop_eq_getElem_cons hn]
  simp [List.getD_eq_getElem?_getD,hn]
theorem Z7z {id n j : Nat} {kk : IntKind} {s : List Nat} (hj : j < s.length) (hn : s.length = n) : Zci 1 (.sl id n (Yz s)) (.int kk (.ofNat j)) h = .ok (.ep (.int .u8 (.ofNat (s.getD j 0)) :: Yz (s.drop (j + 1)))) h := by
  refine UT (by omega) ?_
  rw [Nat.mul_one,Yz,← List.map_drop,Z80 hj]
  rfl
theorem Zw1 {s : List Nat} {n : Nat} {kk : IntKind} (hn : n ≤ s.length) : Zho none (some (.int kk (.ofNat n))) (.str s) h = .ok (.str (s.take n)) h := Z0p hn
theorem Zw0 {s : List Nat} {n m : Nat} {kk kj : IntKind} (hn : n ≤ m) (hm : m ≤ s.length) : Zho (some (.int kk (.ofNat n))) (some (.int kj (.ofNat m))) (.str s) h = .ok (.str ((s.drop n).take (m - n))) h := by
  have e : Nat.ble n m = true := by rw [Nat.ble_eq]; exact hn
  have e2 : Nat.ble m s.length = true := by rw [Nat.ble_eq]; exact hm
  simp only [Zho,Wh,Z06,Z6e,e,e2,cond_true]
theorem Z15 {g : Tr D → D} {lo hi : Option (Tr D → D)} : VD E T (Ze (Zcv g lo hi) p kd) recs t h Q R ↔ vD E T (Zho (lo.map (· t)) (hi.map (· t)) (g t) h) p kd recs t Q R := by
  rw [← Zft (E := E) Zu]
  exact VQ fun c => by rw [Zft,Zft]
end
end
end Go.Abs
namespace Go.Abs
noncomputable section
section
variable {t : Tr D} {h : H}
end
end
end Go.Abs
namespace Go.Abs
noncomputable section
def AAct.at (t : Tr D) (ds : List D) : AAct := ⟨t,ds,none,false⟩
theorem Zio (t : Tr D) (ds : List D) (x : Opd) : (AAct.at t ds).eval x = (act t).eval x := by cases x <;> rfl
theorem at_fun (t : Tr D) (ds : List D) : (AAct.at t ds).eval = (act t).eval := funext (Zio t ds)
theorem Zv5 (t : Tr D) (ds : List D) : ∀ l,(AAct.at t ds).evals l = (act t).evals l
  | [] => rfl
  | x :: l => by simp only [AAct.evals,Zio,Zv5 t ds l]
def Zog : COp → Bool
  | .dfr _ => false
  | .rcv => false
  | _ => true
theorem Z52 (t : Tr D) (ds : List D) : ∀ (l : List (Nat × Nat × Opd)) (cs : List D),Zbq (AAct.at t ds) cs l = Zbq (act t) cs l := by
  intro l
  induction l with
  | nil => intro cs; rfl
  | cons p l ih => intro cs; obtain ⟨a,b,x⟩ := p; simp only [Zbq,Zio,ih]
theorem Zzm {E : Env} {call : Call} {t : Tr D} {ds : List D} {h : H} {o : COp} (ho : Zog o = true) : UO E call (AAct.at t ds) o h = UO E call (act t) o h := by
  cases o <;> first | (cases ho; done) | (simp only [UO,Vh,Zsc,Ziz,Zge,Zdo,Zj6,Za0,U6,Zhk,Zhj,Zpx,Ze8,Zmh,Zyk,Zgh,Zn3,Zj7,Zgg,U5,Zi0,Zdn,Zld,Zb7,Zlc,Zb8,Zsd,Zn8,Zul,Zn6,Zlg,Zlf,Zli,Zb9,Zex,Zid,Zic,Zew,Zoa,Zhl,Zod,Zle,Zn5,Zfa,Zlh,Zse,US,Zio,Zv5,Z52,at_fun,Xs,Zey,Zd4,Zbw,Za3,Za1,Zi1,Zd6,Zfc,Zfb,Za5,Za4,U7,Za2,Zfd,Zgi,Zca,Zd5,Zdp]; done)
def npO (np : Nat → Bool) (inc : List Nat) (lt : Bool) (o : COp) : Bool := !Y8 o || !lt || Zo0 inc || (match o with
  | .call (.d (.v (.func (.func k) ⟨[]⟩ ⟨[]⟩))) _ => np k
  | _ => false)
def Zsh (np : Nat → Bool) : Nat → List (List Nat) → List CO → Bool
  | _,_,[] => true
  | _,[],_ :: _ => true
  | i,inc :: Zr,o :: r => Zog o.op && npO np inc (later i Zr) o.op && Zsh np (i + 1) Zr r
def Zbx (np : Nat → Bool) : CC → Bool
  | .skip => true
  | .ops l => l.all fun o => Zog o.op
  | .draw Zr l => Zsh np 0 Zr l
  | .seq a b => Zbx np a && Zbx np b
  | .cond _ a b => Zbx np a && Zbx np b
  | .block _ c => Zbx np c
  | .loop c => Zbx np c
  | .exit _ => true
  | .ret => true
  | _ => false
def Z9k (ds : List D) (x y : X) : Prop :=
  match x with
  | .out e a h => ∃ t,a = act t ∧ y = .out e (AAct.at t ds) h
  | .panic d a h => ∃ a',y = .panic d a' h ∧ a'.defers = ds
  | .fail _ => True
theorem Zs9 (t : Tr D) (ds : List D) (dst : Option Nat) (d : D) : ∃ t',(act t).put dst d = act t' ∧ (AAct.at t ds).put dst d = AAct.at t' ds := by
  cases dst with
  | none => exact ⟨t,rfl,rfl⟩
  | some n => exact ⟨_,rfl,rfl⟩
theorem Znz {E : Env} {call : Call} {ds : List D} : ∀ (l : List CO) (t : Tr D) (h : H),(l.all fun o => Zog o.op) = true → Z9k ds (ZP E call l (act t) h) (ZP E call l (AAct.at t ds) h)
  | [],t,h,_ => ⟨t,rfl,rfl⟩
  | o :: l,t,h,hp => by
    simp only [List.all_cons,Bool.and_eq_true] at hp
    have hw : Zn (AAct.at t ds) o = Zn (act t) o := rfl
    simp only [ZP,hw]
    cases Zn (act t) o with
    | false =>
      obtain ⟨t',e1,e2⟩ := Zs9 t ds o.dst ZD
      simp only [cond_false,e1,e2]
      exact Znz l t' h hp.2
    | true =>
      simp only [cond_true]
      have hc := Zzm (E := E) (call := call) (t := t) (ds := ds) (h := h) hp.1
      obtain ⟨dst,g,op⟩ := o
      obtain ⟨r,hr⟩ : ∃ r,UO E call (act t) op h = r := ⟨_,rfl⟩
      rw [hr] at hc
      cases op
      all_goals first
        | (cases hp.1; done)
        | (simp only [hc,hr]
           cases r with
           | ok d h' =>
             obtain ⟨t',e1,e2⟩ := Zs9 t ds dst d
             simp only [e1,e2]
             exact Znz l t' h' hp.2
           | panic d h' => exact ⟨_,rfl,rfl⟩
           | fail w => trivial)
def NoP (np : Nat → Bool) (call : Call) : Prop := ∀ k args h d h',np k = true → call k args h ≠ .panic d h'
theorem Z3h (t : Tr D) (ds : List D) (o : COp) : YA (AAct.at t ds) o = YA (act t) o := by cases o <;> simp only [YA,Zio]
theorem Zqs {np : Nat → Bool} {E : Env} {call : Call} {ds : List D} (hn : NoP np call) : ∀ (l : List CO) (i : Nat) (recs : List Rec) (Zr : List (List Nat)) (t : Tr D) (h : H),Zsh np i Zr l = true → Z9k ds (Yk E call i recs Zr l (act t) h) (Yk E call i recs Zr l (AAct.at t ds) h)
  | [],i,recs,Zr,t,h,_ => by cases Zr <;> exact ⟨t,rfl,rfl⟩
  | o :: l,i,recs,[],t,h,_ => trivial
  | o :: l,i,recs,inc :: Zr,t,h,hp => by
    simp only [Zsh,Bool.and_eq_true] at hp
    have ih := fun recs t h => Zqs (ds := ds) (E := E) hn l (i + 1) recs Zr t h hp.2
    have hw : Zn (AAct.at t ds) o = Zn (act t) o := rfl
    simp only [Yk,hw]
    cases Zn (act t) o with
    | false =>
      obtain ⟨t',e1,e2⟩ := Zs9 t ds o.dst ZD
      simp only [cond_false,e1,e2]
      exact ih _ _ _
    | true =>
      have hc := Zzm (E := E) (call := call) (t := t) (ds := ds) (h := h) hp.1.1
      simp only [cond_true,hc,Z3h]
      cases hr : UO E call (act t) o.op h with
      | ok d h' =>
        obtain ⟨t',e1,e2⟩ := Zs9 t ds o.dst d
        simp only [e1,e2]
        cases YA (act t) o.op with
        | some q =>
          obtain ⟨x,n⟩ := q
          simp only []
          cases Z3 h x n with
          | none => trivial
          | some cs =>
            simp only []
            cases XA inc x cs recs with
            | false => trivial
            | true => exact ih _ _ _
        | none =>
          simp only []
          cases Y8 o.op with
          | true =>
            simp only [cond_true]
            cases YJ inc h' recs with
            | false => trivial
            | true => exact ih _ _ _
          | false => exact ih _ _ _
      | panic d h' =>
        simp only []
        have h0 : Zo0 (act t).defers = true := rfl
        rw [h0]
        cases hl : Y8 o.op with
        | false => trivial
        | true =>
          cases hlt : later i Zr with
          | false => trivial
          | true =>
            have hq := hp.1.2
            simp only [npO,hl,hlt,Bool.not_true,Bool.false_or,Bool.or_eq_true] at hq
            rcases hq with hq | hq
            · simp only [Bool.and_self,Bool.true_or,cond_true,hq,Bool.or_true]
              exact ⟨_,rfl,rfl⟩
            · exfalso
              split at hq
              · rename_i k args heq
                rw [heq] at hr
                simp only [UO,Vh,Zhl,AAct.eval,Zh5,List.nil_append,List.append_nil] at hr
                exact hn _ _ _ _ _ hq hr
              · cases hq
      | fail w => trivial
theorem Zqt {np : Nat → Bool} {E : Env} {call : Call} {ds : List D} (hnp : NoP np call) : ∀ (n : Nat) (c : CC) (t : Tr D) (h : H),Zbx np c = true → Z9k ds (Zc E call n c (act t) h) (Zc E call n c (AAct.at t ds) h)
  | 0,c,t,h,_ => trivial
  | n + 1,c,t,h,hp => by
    have ih := @Zqt np E call ds hnp n
    cases c with
    | skip => exact ⟨t,rfl,rfl⟩
    | ops l => exact Znz l t h hp
    | draw a b => exact Zqs hnp b 0 [] a t h hp
    | seq a b =>
      simp only [Zbx,Bool.and_eq_true] at hp
      have h1 := ih a t h hp.1
      simp only [Zc]
      cases hx : Zc E call n a (act t) h with
      | out e a' h' =>
        rw [hx] at h1
        obtain ⟨t',rfl,e2⟩ := h1
        rw [e2]
        cases e with
        | normal => exact ih b t' h' hp.2
        | exit id => exact ⟨t',rfl,rfl⟩
        | ret => exact ⟨t',rfl,rfl⟩
      | panic d a' h' =>
        rw [hx] at h1
        obtain ⟨a2,e2,e3⟩ := h1
        rw [e2]
        exact ⟨_,rfl,e3⟩
      | fail w => trivial
    | cond o a b =>
      simp only [Zbx,Bool.and_eq_true] at hp
      simp only [Zc,Zio]
      cases ho : (act t).eval o with
      | v x =>
        cases x with
        | bool b' =>
          cases b' with
          | true => exact ih a t h hp.1
          | false => exact ih b t h hp.2
        | _ => trivial
      | _ => trivial
    | block id a =>
      have h1 := ih a t h hp
      simp only [Zc]
      cases hx : Zc E call n a (act t) h with
      | out e a' h' =>
        rw [hx] at h1
        obtain ⟨t',rfl,e2⟩ := h1
        rw [e2]
        cases e with
        | normal => exact ⟨t',rfl,rfl⟩
        | exit k =>
          simp only
          cases Nat.beq k id with
          | true => exact ⟨t',rfl,rfl⟩
          | false => exact ⟨t',rfl,rfl⟩
        | ret => exact ⟨t',rfl,rfl⟩
      | panic d a' h' =>
        rw [hx] at h1
        obtain ⟨a2,e2,e3⟩ := h1
        rw [e2]
        exact ⟨_,rfl,e3⟩
      | fail w => trivial
    | loop a =>
      have h1 := ih a t h hp
      simp only [Zc]
      cases hx : Zc E call n a (act t) h with
      | out e a' h' =>
        rw [hx] at h1
        obtain ⟨t',rfl,e2⟩ := h1
        rw [e2]
        cases e with
        | normal => exact ih (.loop a) t' h' hp
        | exit id => exact ⟨t',rfl,rfl⟩
        | ret => exact ⟨t',rfl,rfl⟩
      | panic d a' h' =>
        rw [hx] at h1
        obtain ⟨a2,e2,e3⟩ := h1
        rw [e2]
        exact ⟨_,rfl,e3⟩
      | fail w => trivial
    | exit id => exact ⟨t,rfl,rfl⟩
    | ret => exact ⟨t,rfl,rfl⟩
    | stop => cases hp
    | back a b c d e f g h' => cases hp
def Zrv (j : Nat) : CC → Bool
  | .skip => false
  | .ops l => l.any fun o => match o.dst with
    | some i => Nat.beq i j
    | none => false
  | .seq a b => Zrv j a || Zrv j b
  | .cond _ a b => Zrv j a || Zrv j b
  | .block _ c => Zrv j c
  | .loop c => Zrv j c
  | .draw _ l => l.any fun o => match o.dst with
    | some i => Nat.beq i j
    | none => false
  | _ => false
def Zx9 (j : Nat) (a : AAct) (x : X) : Prop :=
  match x with
  | .out _ b _ => b.tmps.get j = a.tmps.get j
  | .panic _ b _ => b.tmps.get j = a.tmps.get j
  | .fail _ => True
theorem Zx9.trans {j : Nat} {a b : AAct} {x : X} (h : Zx9 j b x) (e : b.tmps.get j = a.tmps.get j) : Zx9 j a x := by
  cases x with
  | out _ _ _ => exact Eq.trans h e
  | panic _ _ _ => exact Eq.trans h e
  | fail _ => trivial
theorem Zfn {a : AAct} {dst : Option Nat} {d : D} {j : Nat} (hj : (match dst with
    | some i => Nat.beq i j
    | none => false) = false) : (a.put dst d).tmps.get j = a.tmps.get j := by
  cases dst with
  | none => rfl
  | some i =>
    have : ¬ j = i := fun e => by subst e; simp at hj
    show (a.tmps.set i (some d)).get j = _
    rw [Tr.get_set,if_neg this]
def Kept1 (b : CC) (a : AAct) (x : X) : Prop := ∀ j,Zrv j b = false → Zx9 j a x
theorem Zoy {E : Env} {call : Call} {j : Nat} : ∀ (l : List CO) (a : AAct) (h : H),(l.all fun o => Zog o.op) = true → Zrv j (.ops l) = false → Zx9 j a (ZP E call l a h)
  | [],a,h,_,_ => rfl
  | o :: l,a,h,hp,hw => by
    simp only [List.all_cons,Bool.and_eq_true] at hp
    simp only [Zrv,List.any_cons,Bool.or_eq_false_iff] at hw
    simp only [ZP]
    cases Zn a o with
    | false =>
      simp only [cond_false]
      exact (Zoy l _ h hp.2 hw.2).trans (Zfn hw.1)
    | true =>
      simp only [cond_true]
      obtain ⟨dst,g,op⟩ := o
      obtain ⟨r,hr⟩ : ∃ r,UO E call a op h = r := ⟨_,rfl⟩
      cases op
      all_goals first
        | (cases hp.1; done)
        | (simp only [hr]
           cases r with
           | ok d h' => exact (Zoy l _ h' hp.2 hw.2).trans (Zfn hw.1)
           | panic d h' => exact rfl
           | fail w => trivial)
theorem Zq4 {E : Env} {call : Call} {j : Nat} : ∀ (l : List CO) (i : Nat) (recs : List Rec) (Zr : List (List Nat)) (a : AAct) (h : H),(l.any fun o => match o.dst with
    | some i => Nat.beq i j
    | none => false) = false → Zx9 j a (Yk E call i recs Zr l a h)
  | [],i,recs,Zr,a,h,_ => by cases Zr <;> rfl
  | o :: l,i,recs,[],a,h,_ => trivial
  | o :: l,i,recs,inc :: Zr,a,h,hw => by
    simp only [List.any_cons,Bool.or_eq_false_iff] at hw
    have ih := fun recs a h => Zq4 (E := E) (call := call) l (i + 1) recs Zr a h hw.2
    simp only [Yk]
    cases Zn a o with
    | false => exact (ih _ _ _).trans (Zfn hw.1)
    | true =>
      simp only [cond_true]
      cases UO E call a o.op h with
      | ok d h' =>
        simp only []
        cases YA a o.op with
        | some q =>
          obtain ⟨x,n⟩ := q
          simp only []
          cases Z3 h x n with
          | none => trivial
          | some cs =>
            simp only []
            cases XA inc x cs recs with
            | false => trivial
            | true => exact (ih _ _ _).trans (Zfn hw.1)
        | none =>
          simp only []
          cases Y8 o.op with
          | true =>
            simp only [cond_true]
            cases YJ inc h' recs with
            | false => trivial
            | true => exact (ih _ _ _).trans (Zfn hw.1)
          | false => exact (ih _ _ _).trans (Zfn hw.1)
      | panic d h' =>
        simp only []
        cases Y8 o.op && later i Zr && (Zo0 a.defers || Zo0 inc) with
        | true => exact rfl
        | false => trivial
      | fail w => trivial
theorem Zq5 {np : Nat → Bool} {E : Env} {call : Call} {j : Nat} : ∀ (n : Nat) (c : CC) (a : AAct) (h : H),Zbx np c = true → Zrv j c = false → Zx9 j a (Zc E call n c a h)
  | 0,c,a,h,_,_ => trivial
  | n + 1,c,a,h,hp,hw => by
    have ih := @Zq5 np E call j n
    cases c with
    | skip => exact rfl
    | ops l => exact Zoy l a h hp hw
    | draw x y => exact Zq4 y 0 [] x a h hw
    | seq x y =>
      simp only [Zbx,Bool.and_eq_true] at hp
      simp only [Zrv,Bool.or_eq_false_iff] at hw
      have h1 := ih x a h hp.1 hw.1
      simp only [Zc]
      cases hx : Zc E call n x a h with
      | out e a' h' =>
        rw [hx] at h1
        cases e with
        | normal => exact (ih y a' h' hp.2 hw.2).trans h1
        | exit id => exact h1
        | ret => exact h1
      | panic d a' h' => rw [hx] at h1; exact h1
      | fail w => trivial
    | cond o x y =>
      simp only [Zbx,Bool.and_eq_true] at hp
      simp only [Zrv,Bool.or_eq_false_iff] at hw
      simp only [Zc]
      cases ho : a.eval o with
      | v x' =>
        cases x' with
        | bool b' =>
          cases b' with
          | true => exact ih x a h hp.1 hw.1
          | false => exact ih y a h hp.2 hw.2
        | _ => trivial
      | _ => trivial
    | block id x =>
      have h1 := ih x a h hp hw
      simp only [Zc]
      cases hx : Zc E call n x a h with
      | out e a' h' =>
        rw [hx] at h1
        cases e with
        | normal => exact h1
        | exit k =>
          simp only
          cases Nat.beq k id with
          | true => exact h1
          | false => exact h1
        | ret => exact h1
      | panic d a' h' => rw [hx] at h1; exact h1
      | fail w => trivial
    | loop x =>
      have h1 := ih x a h hp hw
      simp only [Zc]
      cases hx : Zc E call n x a h with
      | out e a' h' =>
        rw [hx] at h1
        cases e with
        | normal => exact (ih (.loop x) a' h' hp hw).trans h1
        | exit id => exact h1
        | ret => exact h1
      | panic d a' h' => rw [hx] at h1; exact h1
      | fail w => trivial
    | exit id => exact rfl
    | ret => exact rfl
    | stop => cases hp
    | back a b c d e f g h' => cases hp
def Zye (E : Env) (call : Call) (k : Nat) (fn : CFn) : X → O D
  | .out (.exit _) _ _ => .fail "exit"
  | .out .normal a h => Vg E call k fn none a h
  | .out .ret a h => Vg E call k fn none a h
  | .panic d a h => Vg E call k fn (some d) a h
  | .fail w => .fail w
def SL (E : Env) (T : Nat → ZV) (fn : CFn) (c : CC) (a : AAct) (h : H) (Q : D → H → Prop) (R : ZM) : Prop :=
  ∃ o,(∃ N,∀ n m k,N ≤ n → N ≤ m → N ≤ k → Zye E (ZI E T n) k fn (Zc E (ZI E T n) m c a h) = o) ∧ VO Q R o
section
variable {E : Env} {T : Nat → ZV} {t : Tr D} {h : H} {Q : D → H → Prop} {R : ZM} {ds : List D} {fn : CFn}
def seqX (x : X) (k : AAct → H → X) : X :=
  match x with
  | .out .normal a h => k a h
  | .out (.exit i) a h => .out (.exit i) a h
  | .out .ret a h => .out .ret a h
  | .panic d a h => .panic d a h
  | .fail w => .fail w
theorem Zf4 {call : Call} {n : Nat} {x y : CC} {a : AAct} : Zc E call (n + 1) (.seq x y) a h = seqX (Zc E call n x a h) (fun a h => Zc E call n y a h) := by
  simp only [Zc]
  cases Zc E call n x a h with
  | out e a h => cases e <;> rfl
  | panic d a h => rfl
  | fail w => rfl
theorem Z6h {f : Nat} {args : List D} (hT : T f = Ze1 fn) (hs : SL E T fn fn.body (start args none) h Q R) : VC E T f args h Q R := by
  obtain ⟨o,⟨N,hN⟩,ho⟩ := hs
  refine ⟨o,⟨N + 1,fun n hn => ?_⟩,ho⟩
  obtain ⟨n,rfl⟩ : ∃ k,n = k + 1 := ⟨n - 1,by omega⟩
  show T f E n (ZI E T n) args h = o
  rw [hT]
  have e := hN n n n (by omega) (by omega) (by omega)
  simp only [Ze1]
  cases hx : Zc E (ZI E T n) n fn.body (start args none) h with
  | out x a h' =>
    rw [hx] at e
    cases x <;> exact e
  | panic d a h' => rw [hx] at e; exact e
  | fail w => rw [hx] at e; exact e
theorem Zwq {a b : CC} {q : FC} (hc : Xh a = q) (hx : VP E T q t h (fun e t' h' => match e with
    | .normal => SL E T fn b (act t') h' Q R
    | .ret => sC (UP fn (act t') h') Q
    | .exit _ => False) R) : SL E T fn (.seq a b) (act t) h Q R := by
  subst hc
  obtain ⟨x,⟨N,hN⟩,hk⟩ := hx
  have key : ∀ n m,N ≤ n → N ≤ m → Ok x (Zc E (ZI E T n) m a (act t) h) := fun n m hn hm => by
    have := Zhy E (ZI E T n) a m t h
    rw [hN n m hn hm] at this
    exact this
  cases x with
  | out e t' h' =>
    cases e with
    | normal =>
      obtain ⟨o,⟨M,hM⟩,ho⟩ := hk
      refine ⟨o,⟨N + M + 1,fun n m k hn hm hk => ?_⟩,ho⟩
      obtain ⟨m,rfl⟩ : ∃ k,m = k + 1 := ⟨m - 1,by omega⟩
      have e := key n m (by omega) (by omega)
      simp only [Ok] at e
      rw [Zf4,e]
      exact hM n m k (by omega) (by omega) (by omega)
    | exit i => exact hk.elim
    | ret =>
      have hk : sC (UP fn (act t') h') Q := hk
      cases hf : UP fn (act t') h' with
      | ok d h2 =>
        rw [hf] at hk
        refine ⟨.ok d h2,⟨N + 1,fun n m k hn hm hk2 => ?_⟩,hk⟩
        obtain ⟨m,rfl⟩ : ∃ k,m = k + 1 := ⟨m - 1,by omega⟩
        have e := key n m (by omega) (by omega)
        simp only [Ok] at e
        rw [Zf4,e]
        rw [Zdw] at hf
        exact hf
      | panic d h2 => rw [hf] at hk; exact hk.elim
      | fail w => rw [hf] at hk; exact hk.elim
  | panic d h' =>
    refine ⟨.panic d h',⟨N + 1,fun n m k hn hm hk2 => ?_⟩,hk⟩
    obtain ⟨m,rfl⟩ : ∃ k,m = k + 1 := ⟨m - 1,by omega⟩
    obtain ⟨a',e,hd⟩ := key n m (by omega) (by omega)
    rw [Zf4,e]
    simp only [seqX,Zye,Vg,hd]
  | fail w => exact hk.elim
theorem Zzq {a : AAct} (ha : ∀ r ∈ fn.results,∀ n,(r = .t n ∨ r = .c1 n ∨ ∃ s,r = .cN n s) → a.tmps.get n = t.get n) : UP fn a h = UP fn (act t) h := by
  have key : ∀ l : List CRes,(∀ r ∈ l,∀ n,(r = .t n ∨ r = .c1 n ∨ ∃ s,r = .cN n s) → a.tmps.get n = t.get n) → Xl a h l = Xl (act t) h l := by
    intro l
    induction l with
    | nil => intro _; rfl
    | cons r l ih =>
      intro hl
      have h1 := ih fun r hr => hl r (List.mem_cons_of_mem _ hr)
      have h2 : ∀ n,(r = .t n ∨ r = .c1 n ∨ ∃ s,r = .cN n s) → a.eval (.t n) = (act t).eval (.t n) := fun n hn => by
        have := hl r (List.mem_cons_self ..) n hn
        simp only [AAct.eval,this]; rfl
      cases r with
      | t n => simp only [Xl,h1,h2 n (.inl rfl)]
      | c1 n => simp only [Xl,h1,h2 n (.inr (.inl rfl))]
      | cN n s => simp only [Xl,h1,h2 n (.inr (.inr ⟨s,rfl⟩))]
  simp only [Zdw,Zbj,key fn.results ha]
def DF (E : Env) (T : Nat → ZV) (fn : CFn) (p : Option Nat) (c : CC) (xs : List D) (r : Option D) (t : Tr D) (h : H) (Q : D → H → Prop) : Prop :=
  VP E T (Xh c) ((start xs none).put p (Zlb r)).tmps h (fun e _ h' => (∀ i,e ≠ .exit i) ∧ sC (UP fn (act t) h') Q) (fun _ _ => False)
theorem Zvv {g : Nat} {xs ys : List D} {p : Option Nat} {c : CC} {r : Option D} (hg : E.dfrs g = some (p,c)) (hd : DF E T fn p c (xs ++ ys) r t h Q) :
    ∃ o,(∃ N,∀ n k,N ≤ n → N ≤ k → ∀ a : AAct,a.defers = [.func (.func g) xs ys] → (∀ r ∈ fn.results,∀ n,(r = .t n ∨ r = .c1 n ∨ ∃ s,r = .cN n s) → a.tmps.get n = t.get n) → Vg E (ZI E T n) k fn r a h = o) ∧ VO Q R o := by
  obtain ⟨x,⟨N,hN⟩,hk⟩ := hd
  cases x with
  | out e t' h' =>
    obtain ⟨he,hq⟩ := hk
    cases hf : UP fn (act t) h' with
    | ok d h2 =>
      rw [hf] at hq
      refine ⟨.ok d h2,⟨N,fun n k hn hk a ha hr => ?_⟩,hq⟩
      have e1 := Zhy E (ZI E T n) c k ((start (xs ++ ys) none).put p (Zlb r)).tmps h
      rw [hN n k hn hk] at e1
      have e0 : act ((start (xs ++ ys) none).put p (Zlb r)).tmps = (start (xs ++ ys) none).put p (Zlb r) := by cases p <;> rfl
      simp only [Ok,e0] at e1
      simp only [Vg,ha,Zfh,hg,e1]
      cases e with
      | normal => simp only [act]; rw [← Zdw,Zzq hr]; exact hf
      | ret => simp only [act]; rw [← Zdw,Zzq hr]; exact hf
      | exit i => exact absurd rfl (he i)
    | panic d h2 => rw [hf] at hq; exact hq.elim
    | fail w => rw [hf] at hq; exact hq.elim
  | panic d h' => exact hk.elim
  | fail w => exact hk.elim
def keepB (fn : CFn) (b : CC) : Bool := fn.results.all fun r => match r with
  | .t n => !Zrv n b
  | .c1 n => !Zrv n b
  | .cN n _ => !Zrv n b
theorem sl_dfr {np : Nat → Bool} (hnp : ∀ n,NoP np (ZI E T n)) {i g : Nat} {fs cs : List Opd} {xs ys : List D} {b : CC} {q : FC} {p : Option Nat} {c : CC} (hb : Zbx np b = true) (hkb : keepB fn b = true) (hki : keepB fn (.ops [⟨some i,none,.mv (.t i)⟩]) = true) (hc : Xh b = q) (hg : E.dfrs g = some (p,c)) (hxs : (act t).evals fs = xs) (hys : (act t).evals cs = ys)
    (hx : VP E T q (t.set i (some (.func (.func g) xs ys))) h (fun e t' h' => (∀ i,e ≠ .exit i) ∧ DF E T fn p c (xs ++ ys) none t h' Q) (fun d h' => DF E T fn p c (xs ++ ys) (some d) t h' Q)) :
    SL E T fn (.seq (.ops [⟨some i,none,.mkf (.func g) fs cs⟩,⟨none,none,.dfr (.t i)⟩]) b) (act t) h Q R := by
  subst hc hxs hys
  obtain ⟨x,⟨N,hN⟩,hk⟩ := hx
  have e0 : ∀ (call : Call) (m : Nat),Zc E call (m + 1) (.ops [⟨some i,none,.mkf (.func g) fs cs⟩,⟨none,none,.dfr (.t i)⟩]) (act t) h = .out .normal (AAct.at (t.set i (some (.func (.func g) ((act t).evals fs) ((act t).evals cs)))) [.func (.func g) ((act t).evals fs) ((act t).evals cs)]) h := by
    intro call m
    have e1 : ((act t).put (some i) (.func (.func g) ((act t).evals fs) ((act t).evals cs))).eval (.t i) = .func (.func g) ((act t).evals fs) ((act t).evals cs) := by
      simp only [AAct.put,AAct.eval,Tr.get_set,if_true]
    simp only [Zc,ZP,Zn,cond_true,UO,Vh,Zi0,e1]
    rfl
  have hres : ∀ a : AAct,(∀ j,Zrv j b = false → a.tmps.get j = (t.set i (some (D.func (.func g) ((act t).evals fs) ((act t).evals cs)))).get j) → ∀ r ∈ fn.results,∀ n,(r = .t n ∨ r = .c1 n ∨ ∃ s,r = .cN n s) → a.tmps.get n = t.get n := by
    intro a ha r hr n hn
    have h1 := List.all_eq_true.1 hkb r hr
    have h2 := List.all_eq_true.1 hki r hr
    have h3 : Zrv n b = false ∧ Zrv n (.ops [⟨some i,none,.mv (.t i)⟩]) = false := by
      rcases hn with rfl | rfl | ⟨s,rfl⟩ <;> exact ⟨by simpa using h1,by simpa using h2⟩
    rw [ha n h3.1,Tr.get_set]
    have : ¬ n = i := fun e => by
      subst e
      have := h3.2
      simp [Zrv] at this
    rw [if_neg this]
  have hkp : ∀ (n m : Nat),Kept1 b (AAct.at (t.set i (some (D.func (.func g) ((act t).evals fs) ((act t).evals cs)))) [.func (.func g) ((act t).evals fs) ((act t).evals cs)]) (Zc E (ZI E T n) m b (AAct.at (t.set i (some (D.func (.func g) ((act t).evals fs) ((act t).evals cs)))) [.func (.func g) ((act t).evals fs) ((act t).evals cs)]) h) := fun n m j hj => Zq5 (np := np) m b _ h hb hj
  have hrd : ∀ (n m : Nat),Z9k [.func (.func g) ((act t).evals fs) ((act t).evals cs)] (Zc E (ZI E T n) m b (act (t.set i (some (D.func (.func g) ((act t).evals fs) ((act t).evals cs))))) h) (Zc E (ZI E T n) m b (AAct.at (t.set i (some (D.func (.func g) ((act t).evals fs) ((act t).evals cs)))) [.func (.func g) ((act t).evals fs) ((act t).evals cs)]) h) := fun n m => Zqt (hnp n) m b _ h hb
  have key : ∀ n m,N ≤ n → N ≤ m → Ok x (Zc E (ZI E T n) m b (act (t.set i (some (D.func (.func g) ((act t).evals fs) ((act t).evals cs))))) h) := fun n m hn hm => by
    have := Zhy E (ZI E T n) b m (t.set i (some (D.func (.func g) ((act t).evals fs) ((act t).evals cs)))) h
    rw [hN n m hn hm] at this
    exact this
  cases x with
  | out e t' h' =>
    obtain ⟨he,hd⟩ := hk
    obtain ⟨o,⟨M,hM⟩,ho⟩ := Zvv (R := R) hg hd
    refine ⟨o,⟨N + M + 2,fun n m k hn hm hk => ?_⟩,ho⟩
    obtain ⟨m,rfl⟩ : ∃ k,m = k + 2 := ⟨m - 2,by omega⟩
    have e1 := hrd n (m + 1)
    have e2 := hkp n (m + 1)
    rw [key n (m + 1) (by omega) (by omega)] at e1
    obtain ⟨t2,_,e3⟩ := e1
    rw [e3] at e2
    have e4 := hres _ fun j hj => e2 j hj
    rw [Zf4,e0]
    show Zye E (ZI E T n) k fn (Zc E (ZI E T n) (m + 1) b _ h) = o
    rw [e3]
    cases e with
    | normal => exact hM n k (by omega) (by omega) _ rfl e4
    | ret => exact hM n k (by omega) (by omega) _ rfl e4
    | exit i => exact absurd rfl (he i)
  | panic d h' =>
    obtain ⟨o,⟨M,hM⟩,ho⟩ := Zvv (R := R) hg hk
    refine ⟨o,⟨N + M + 2,fun n m k hn hm hk => ?_⟩,ho⟩
    obtain ⟨m,rfl⟩ : ∃ k,m = k + 2 := ⟨m - 2,by omega⟩
    have e1 := hrd n (m + 1)
    have e2 := hkp n (m + 1)
    obtain ⟨a0,ea,_⟩ := key n (m + 1) (by omega) (by omega)
    rw [ea] at e1
    obtain ⟨a',e3,e5⟩ := e1
    rw [e3] at e2
    have e4 := hres _ fun j hj => e2 j hj
    rw [Zf4,e0]
    show Zye E (ZI E T n) k fn (Zc E (ZI E T n) (m + 1) b _ h) = o
    rw [e3]
    exact hM n k (by omega) (by omega) _ e5 e4
  | fail w => exact hk.elim
end
end
end Go.Abs
namespace Go.Abs
noncomputable section
section
variable {E : Env} {T : Nat → ZV} {p : D → Tr D → Tr D} {k : FR} {kd : FD} {recs : List Rec} {t : Tr D} {h : H} {Q : UU} {R : ZM}
def Z0o (ty : TypeId) (z : D) (ok : Bool) (d : D) (h : H) : O D :=
  match d with
  | .v .nilIface => bif ok then .ok (.tup [z,.v (.bool false)]) h else .fail "typeAssert"
  | .iface u d => bif Nat.beq u ty then .ok (bif ok then .tup [d,.v (.bool true)] else d) h else
      bif ok then .ok (.tup [z,.v (.bool false)]) h else .fail "typeAssert"
  | _ => .fail "typeAssert"
theorem Zwi {ty : TypeId} {z : D} {ok : Bool} {g : Tr D → D} : VR E T (fo (u1 (fun x => Zew ty z x ok) g) p k) t h Q R ↔ vO E T (Z0o ty z ok (g t) h) p k t Q R := by
  rw [show Z0o ty z ok (g t) h = (u1 (fun x => Zew ty z x ok) g) E Zu t h by
    cases hg : g t <;> first | (simp only [Z0o,u1,Zew,AAct.eval,hg]; done) | (rename_i x; cases x <;> simp only [Z0o,u1,Zew,AAct.eval,hg])]
  exact Xc fun _ => rfl
theorem Zon {ty : TypeId} {z d : D} : Z0o ty z true (.iface ty d) h = .ok (.tup [d,.v (.bool true)]) h := by
  simp only [Z0o,Nat.beq_refl,cond_true]
end
end
end Go.Abs
