/- More rules for walks: fields of values, panics, closures, guarded operations of drawn regions; calls in the form of what holds behind them. -/
import Derived.Test.YtlkjicigmhhjbaaGreatDoorNdWay
set_option linter.unusedVariables false
set_option linter.unusedSimpArgs false
namespace Go.Abs
noncomputable section
abbrev mM (a b : Nat) (k : FR) : FR := fo (Yf (Gt a)) (St b) k
abbrev mL (a b : Nat) (k : FR) : FR := fo (ZJ (Gt a)) (St b) k
abbrev mF (n a b : Nat) (k : FR) : FR := fo (u1 (Zcq n) (Gt a)) (St b) k
abbrev mE (n a b : Nat) (k : FR) : FR := fo (u1 (Zmm n) (Gt a)) (St b) k
abbrev mK (f : Nat) (l : List (Tr D → D)) (b : Nat) (k : FR) : FR := fo (Z9 f l) (St b) k
abbrev mS (a : Nat) (g : Tr D → D) (k : FR) : FR := fo (Ze 1 (Gt a) g) p0 k
abbrev kI (n : Nat) : Tr D → D := kD (.int .i64 (.ofNat n))
abbrev kS (s : List Nat) : Tr D → D := kD (.str s)
abbrev mQ (t a n : Nat) : VH := Zd ZX .eql t (.tmp a) (.const (.int .i64 (.ofNat n))) (Gt a) (kD (.int .i64 (.ofNat n)))
abbrev mR (t a n : Nat) : VH := Zd U6 .neq t (.tmp a) (.const (.int .i64 (.ofNat n))) (Gt a) (kD (.int .i64 (.ofNat n)))
section
variable {E : Env} {T : Nat → ZE} {p : D → Tr D → Tr D} {k : FR} {kd : FD} {recs : List Rec} {t : Tr D} {h : H} {Q : Uc} {R : Uk} {g g1 g2 g3 : Tr D → D} {i : Nat} {inc : List Nat}
def oHd : List D → Option D
  | d :: _ => some d
  | [] => none
def oAg : Option (List D) → Option D
  | some cs => some (.agg cs)
  | none => none
def Z5m (ag : Bool) (off n : Nat) (d : D) (h : H) : O D :=
  match d with
  | .agg cs => Uu (bif ag then oAg (Z2a (cs.drop off) n) else oHd (cs.drop off)) h "field"
  | _ => .fail "field"
theorem Zgm {d : D} {r : List D} : oHd (d :: r) = some d := rfl
theorem Zgo {cs : List D} : oAg (some cs) = some (.agg cs) := rfl
theorem Zv1 (ag : Bool) (n : Nat) (cs : List D) (off : Nat) : Zkf ag n cs off = bif ag then oAg (Z2a (cs.drop off) n) else oHd (cs.drop off) := by
  cases ag with
  | true =>
    simp only [Zkf, cond_true, Z2a]
    cases Nat.beq ((cs.drop off).take n).length n <;> rfl
  | false => simp only [Zkf, cond_false]; cases cs.drop off <;> rfl
theorem Z0e {ag : Bool} {off n : Nat} {d : D} (hd : d = g t) : Uj ag off n (.d d) E Yb (act t) h = Z5m ag off n d h := by
  cases d <;> simp only [Zvp, Zdg, Z5m, AAct.eval, Zv1]
theorem Zgn {ag : Bool} {off n : Nat} {cs : List D} : Z5m ag off n (.agg cs) h = Uu (bif ag then oAg (Z2a (cs.drop off) n) else oHd (cs.drop off)) h "field" := rfl
theorem Zn0 {ag : Bool} {off n : Nat} : VR E T (fo (u1 (Uj ag off n) g) p k) t h Q R ↔ vO E T (Z5m ag off n (g t) h) p k t Q R := by
  rw [← Z0e (E := E) rfl]; exact Xx fun _ => rfl
theorem Zn8 {ag : Bool} {off n : Nat} : VD E T (Zf (u1 (Uj ag off n) g) p kd) recs t h Q R ↔ vD E T (Z5m ag off n (g t) h) p kd recs t Q R := by
  rw [← Z0e (E := E) rfl]; exact Ve fun _ => rfl
theorem Zf5 {ty : TypeId} : VR E T (fo (u1 (XF ty) g) p k) t h Q R ↔ VR E T k (p (.iface ty (g t)) t) h Q R := Xx fun _ => rfl
def oPan (d : D) (h : H) : O D :=
  match d with
  | .iface t d => .panic (.iface t d) h
  | _ => .fail "panic"
theorem Zpk {ty : TypeId} {d : D} : oPan (.iface ty d) h = .panic (.iface ty d) h := rfl
theorem Zf4 : VR E T (fo (u1 US g) p k) t h Q R ↔ vO E T (oPan (g t) h) p k t Q R := Xx fun _ => rfl
theorem Zia {fn : Fn} {xs ys : List (Tr D → D)} : VR E T (fo (Zdj fn xs ys) p k) t h Q R ↔ VR E T k (p (.func fn (Zkv xs t) (Zkv ys t)) t) h Q R := Xx fun _ => rfl
theorem Zn6 {fn : Fn} {xs ys : List (Tr D → D)} : VD E T (Zf (Zdj fn xs ys) p kd) recs t h Q R ↔ VD E T kd recs (p (.func fn (Zkv xs t) (Zkv ys t)) t) h Q R := Ve fun _ => rfl
def Z2z (E : Env) (T : Nat → ZE) (b : Bool) (y : FD → FD) (p : D → Tr D → Tr D) (kd : FD) (recs : List Rec) (t : Tr D) (h : H) (Q : Uc) (R : Uk) : Prop := bif b then VD E T (y kd) recs t h Q R else VD E T kd recs (p Zj t) h Q R
@[congr] theorem vDg_congr {b b' : Bool} {y : FD → FD} {recs' : List Rec} {t' : Tr D} {h' : H} (hb : b = b') (hr : recs = recs') (ht : t = t') (hh : h = h') : Z2z E T b y p kd recs t h Q R = Z2z E T b' y p kd recs' t' h' Q R := by rw [hb, hr, ht, hh]
theorem Zue {y : FD → FD} : Z2z E T true y p kd recs t h Q R ↔ VD E T (y kd) recs t h Q R := Iff.rfl
theorem Zuf {y : FD → FD} : Z2z E T false y p kd recs t h Q R ↔ VD E T kd recs (p Zj t) h Q R := Iff.rfl
theorem Zn9 {w : Bool} {y : FD → FD} : VD E T (XX g w y p kd) recs t h Q R ↔ Z2z E T (wanted (g t) w) y p kd recs t h Q R := by
  unfold Z2z VD Zma
  cases hw : wanted (g t) w <;> simp only [XX, hw, cond_true, cond_false]
theorem Zn4 {g : Tr D → D} : VD E T (Zf (u1 (Zo9 .not) g) p kd) recs t h Q R ↔ vD E T (oNot E (g t) h) p kd recs t Q R := Ve fun _ => rfl
theorem Zjz : VD E T (Zf (Zu g1 g2 g3) p kd) recs t h Q R ↔ vD E T (Z0a (g1 t) (g2 t) (g3 t) h) p kd recs t Q R := by rw [← Z0k (E := E) (c := Yb)]; exact Ve fun _ => rfl
theorem Zn7 : VD E T (Zf (u1 V6 g) p kd) recs t h Q R ↔ vD E T (Zgk (g t) h) p kd recs t Q R := by rw [← Zzz (E := E) (c := Yb) (a := act t)]; exact Ve fun _ => rfl
theorem Zj0 : VD E T (Zf (u1 Va g) p kd) recs t h Q R ↔ vD E T (Z0b (g t) h) p kd recs t Q R := by rw [← Zvm (E := E) (c := Yb) (a := act t)]; exact Ve fun _ => rfl
theorem Zob {ty : TypeId} : VD E T (Zf (Ye ty g) p kd) recs t h Q R ↔ VD E T kd recs (p (.ptr h.next 0) t) (WJ h (.cells ty (g t).cells)) Q R := by rw [← Zbc]; exact Ve fun _ => rfl
theorem Zg5 {op : BinOp} {ty : TypeId} {ox oy : Operand} : VD E T (Zf (VI op ty ox oy g1 g2) p kd) recs t h Q R ↔ vD E T (Uu (Zcr E op ty ox oy (g1 t) (g2 t)) h "bin") p kd recs t Q R := Ve fun _ => rfl
theorem ZG {i : Nat} {inc : List Nat} {f : Nat} {gs : List (Tr D → D)} (hc : VC E T f (Zkv gs t) h (fun d h' => Xm inc h' recs = true ∧ VD E T kd (.loud i h :: recs) (p d t) h' Q R) R) : VD E T (Wi i inc (Z9 f gs) p kd) recs t h Q R := by
  obtain ⟨o, ⟨M, hM⟩, ho⟩ := hc
  cases o with
  | ok d h1 =>
    obtain ⟨hb, x, ⟨N, hN⟩, hq⟩ := ho
    refine ⟨x, ⟨N + M, fun m hm => ?_⟩, hq⟩
    show O.casesOn (motive := fun _ => XT) (Xr E T m f (Zkv gs t) h) _ _ _ = x
    rw [hM m (by omega)]
    simp only [Zdh, hb, cond_true]
    exact hN m (by omega)
  | panic d h' =>
    refine ⟨.panic d h', ⟨M, fun m hm => ?_⟩, ho⟩
    show O.casesOn (motive := fun _ => XT) (Xr E T m f (Zkv gs t) h) _ _ _ = _
    rw [hM m hm]
  | fail w => exact ho.elim
def Zpm (x i : D) (h : H) : O D :=
  match x, i with
  | .str s, .int _ (.ofNat i) => Uu (match s.drop i with | b :: _ => some (.int .u8 (.ofNat b)) | [] => none) h "index: string"
  | _, _ => .fail "index: string"
theorem Zv5 {x y : D} : Xs (.d x) (.d y) E Yb (act t) h = Zpm x y h := by
  cases x <;> try rfl
  cases y <;> try rfl
  rename_i s kk n
  cases n with
  | negSucc n => rfl
  | ofNat n =>
    simp only [Zr3, UY, Zpm, AAct.eval]
    cases s.drop n <;> rfl
theorem Z5k {s : List Nat} {kk : IntKind} {n b : Nat} {r : List Nat} (hb : s.drop n = b :: r) : Zpm (.str s) (.int kk (.ofNat n)) h = .ok (.int .u8 (.ofNat b)) h := by simp only [Zpm, hb, Uu]
theorem Zjw : VR E T (fo (u2 Xs g1 g2) p k) t h Q R ↔ vO E T (Zpm (g1 t) (g2 t) h) p k t Q R := by
  rw [← Zv5 (E := E)]; exact Xx fun _ => rfl
theorem Zj1 : VD E T (Zf (u2 Xs g1 g2) p kd) recs t h Q R ↔ vD E T (Zpm (g1 t) (g2 t) h) p kd recs t Q R := by
  rw [← Zv5 (E := E)]; exact Ve fun _ => rfl
theorem Zhc {ty : TypeId} {ox oy : Operand} {a b : List Nat} : Zng E ZX .eql ty ox oy (.str a) (.str b) h = .ok (.v (.bool (Ua a b))) h := rfl
theorem Zdu {ty : TypeId} {ox oy : Operand} {a b : List Nat} : Zng E U6 .neq ty ox oy (.str a) (.str b) h = .ok (.v (.bool (!Ua a b))) h := rfl
theorem Zck (a b : List Nat) : Ua a b = decide (a = b) := by
  induction a generalizing b with
  | nil => cases b <;> simp [Ua]
  | cons x a ih =>
    cases b with
    | nil => simp [Ua]
    | cons y b => simp only [Ua, ih, List.cons.injEq, Bool.decide_and, V5]
theorem Zba {m n : Nat} (hn : n ≤ m) (hm : m ≤ 9223372036854775807) : XY .i64 (.ofNat m) (.ofNat n) = .int .i64 (.ofNat (m - n)) := by
  have e : Z50 (.ofNat m) (.ofNat n) = .ofNat (m - n) := by rw [Ztj]; simp; omega
  simp only [XY, e, Zsu (show m - n ≤ 9223372036854775807 by omega)]
def Arr (z : Nat) (d : D) (cs : List (List D)) : Prop := (∀ c ∈ cs, c.length = z) ∧ ((cs = [] ∧ d = .v (.slice none 0 0)) ∨ ∃ id, d = .sl id cs.length cs.flatten)
theorem Zl1 {z : Nat} : ∀ {cs : List (List D)}, (∀ c ∈ cs, c.length = z) → cs.flatten.length = cs.length * z
  | [], _ => by simp
  | c :: r, h => by
    rw [List.flatten_cons, List.length_append, Zl1 fun x hx => h x (List.mem_cons_of_mem _ hx), h c (List.mem_cons_self ..), List.length_cons, Nat.succ_mul]
    omega
theorem Zb8 {z : Nat} : ∀ {cs : List (List D)} (h : ∀ c ∈ cs, c.length = z) {i : Nat} (hi : i < cs.length), cs.flatten.drop (i * z) = cs[i] ++ (cs.drop (i + 1)).flatten
  | [], _, i, hi => by cases hi
  | c :: r, h, 0, _ => by simp
  | c :: r, h, i + 1, hi => by
    have h4 : c.length = z := h c (List.mem_cons_self ..)
    rw [List.flatten_cons, List.getElem_cons_succ, List.drop_succ_cons, ← Zb8 (fun x hx => h x (List.mem_cons_of_mem _ hx)) (Nat.lt_of_succ_lt_succ hi), Nat.succ_mul, Nat.add_comm, ← h4, ← List.drop_drop, List.drop_left]
theorem Arr.len {z : Nat} {d : D} {cs : List (List D)} (ha : Arr z d cs) : Zgk d h = .ok (.int .i64 (.ofNat cs.length)) h := by
  rcases ha.2 with ⟨rfl, rfl⟩ | ⟨id, rfl⟩ <;> rfl
theorem Arr.at {z : Nat} {d : D} {cs : List (List D)} (ha : Arr z d cs) (hz : 0 < z) {kk : IntKind} {i : Nat} (hi : i < cs.length) {c : List D} (hc : cs[i]? = some c) : Zgl z d (.int kk (.ofNat i)) h = .ok (.ep (c ++ (cs.drop (i + 1)).flatten)) h := by
  have hc' : cs[i] = c := by rw [List.getElem?_eq_getElem hi] at hc; exact Option.some.inj hc
  rcases ha.2 with ⟨rfl, rfl⟩ | ⟨id, rfl⟩
  · cases hi
  · have hr := Zb8 ha.1 hi
    have hl := ha.1 _ (List.getElem_mem hi)
    rw [hc'] at hr hl
    cases c with
    | nil => simp at hl; omega
    | cons a r => exact Ze8 hi hr
end
end
end Go.Abs
namespace Go.Abs
noncomputable section
section
variable {E : Env} {T : Nat → ZE} {p : D → Tr D → Tr D} {k : FR} {kd : FD} {recs : List Rec} {t : Tr D} {h : H} {Q : Uc} {R : Uk} {a b : FC} {i : Nat} {inc : List Nat}
@[congr] theorem VC_congr {f : Nat} {args args' : List D} {h' : H} {Q : D → H → Prop} (ha : args = args') (hh : h = h') : VC E T f args h Q R = VC E T f args' h' Q R := by rw [ha, hh]
theorem Yh {P : Prop} [Decidable P] (h1 : P → VP E T a t h Q R) (h2 : ¬ P → VP E T b t h Q R) : vB E T (.v (.bool (decide P))) a b t h Q R := by
  by_cases hp : P
  · rw [decide_eq_true hp]; exact h1 hp
  · rw [decide_eq_false hp]; exact h2 hp
theorem ZV {P : Prop} [Decidable P] (h1 : P → VP E T b t h Q R) (h2 : ¬ P → VP E T a t h Q R) : vB E T (.v (.bool (!decide P))) a b t h Q R := by
  by_cases hp : P
  · rw [decide_eq_true hp]; exact h1 hp
  · rw [decide_eq_false hp]; exact h2 hp
theorem VL {w : Bool} : wanted (.v (.bool true)) w = w := rfl
theorem VM {w : Bool} : wanted (.v (.bool false)) w = !w := by cases w <;> rfl
theorem Yg {P : Prop} [Decidable P] {w : Bool} {f : VH} (h1 : P → vG E T w f p k t h Q R) (h2 : ¬ P → vG E T (!w) f p k t h Q R) : vG E T (wanted (.v (.bool (decide P))) w) f p k t h Q R := by
  by_cases hp : P
  · rw [decide_eq_true hp, VL]; exact h1 hp
  · rw [decide_eq_false hp, VM]; exact h2 hp
theorem ZT {P : Prop} [Decidable P] {w : Bool} {f : VH} (h1 : P → vG E T (!w) f p k t h Q R) (h2 : ¬ P → vG E T w f p k t h Q R) : vG E T (wanted (.v (.bool (!decide P))) w) f p k t h Q R := by
  by_cases hp : P
  · rw [decide_eq_true hp, Bool.not_true, VM]; exact h1 hp
  · rw [decide_eq_false hp, Bool.not_false, VL]; exact h2 hp
theorem ZU {P : Prop} [Decidable P] {w : Bool} {y : FD → FD} (h1 : P → Z2z E T w y p kd recs t h Q R) (h2 : ¬ P → Z2z E T (!w) y p kd recs t h Q R) : Z2z E T (wanted (.v (.bool (decide P))) w) y p kd recs t h Q R := by
  by_cases hp : P
  · rw [decide_eq_true hp, VL]; exact h1 hp
  · rw [decide_eq_false hp, VM]; exact h2 hp
theorem ZH {P : Prop} [Decidable P] {w : Bool} {y : FD → FD} (h1 : P → Z2z E T (!w) y p kd recs t h Q R) (h2 : ¬ P → Z2z E T w y p kd recs t h Q R) : Z2z E T (wanted (.v (.bool (!decide P))) w) y p kd recs t h Q R := by
  by_cases hp : P
  · rw [decide_eq_true hp, Bool.not_true, VM]; exact h1 hp
  · rw [decide_eq_false hp, Bool.not_false, VL]; exact h2 hp
def Z0u (E : Env) (T : Nat → ZE) (a : FC) (Q : Uc) (R : Uk) : Uc := fun e t h =>
  match e with
  | .normal => VP E T (ZI a) t h Q R
  | .exit i => Q (.exit i) t h
  | .ret => Q .ret t h
theorem Zkn : Z0u E T a Q R .normal t h ↔ VP E T (ZI a) t h Q R := Iff.rfl
theorem Zko : Z0u E T a Q R (.exit i) t h ↔ Q (.exit i) t h := Iff.rfl
theorem Zkm : Z0u E T a Q R .ret t h ↔ Q .ret t h := Iff.rfl
theorem Zjy (hq : VP E T a t h (Z0u E T a Q R) R) : VP E T (ZI a) t h Q R := by
  obtain ⟨x, hr, hq⟩ := hq
  cases x with
  | out e t1 h1 => cases e with
    | normal =>
      obtain ⟨x, hr', hq⟩ := hq
      exact ⟨_, Zrs hr hr', hq⟩
    | exit i => exact ⟨_, UR hr trivial, hq⟩
    | ret => exact ⟨_, UR hr trivial, hq⟩
  | panic d h1 => exact ⟨_, Zhq hr, hq⟩
  | fail w => exact hq.elim
theorem Z26 (i j l m n o : Nat) {c : FC} (hq : ∀ t', Gt i t' = Gt i t → Gt j t' = Gt j t → Gt l t' = Gt l t → Gt m t' = Gt m t → Gt n t' = Gt n t → Gt o t' = Gt o t → VP E T c t' h Q R) : VP E T c t h Q R := hq t rfl rfl rfl rfl rfl rfl
def Z5l (ag : Bool) (n size : Nat) (x i : D) (h : H) : O D := Zgf ag n size (.d x) (.d i) E Yb (act .nil) h
def Z5h (o : Option D) (h : H) : O D := Uu o h "index: value"
theorem Zkk {n size j : Nat} {kk : IntKind} {cs : List D} (hj : j < n) : Z5l (E := E) false n size (.agg cs) (.int kk (.ofNat j)) h = Z5h (oHd (cs.drop (j * size))) h := by
  have e : Nat.blt j n = true := by rw [Nat.blt_eq]; exact hj
  simp only [Z5l, Zr4, UZ, AAct.eval, V3, e, cond_true, Zv1, cond_false, Z5h]
theorem Zbx {d : D} : Z5h (some d) h = .ok d h := rfl
theorem Zjx {g1 g2 : Tr D → D} {ag : Bool} {n size : Nat} : VR E T (fo (u2 (Zgf ag n size) g1 g2) p k) t h Q R ↔ vO E T (Z5l (E := E) ag n size (g1 t) (g2 t) h) p k t Q R := Xx fun _ => rfl
theorem Zdw {ty : TypeId} {ox oy : Operand} {x y : List Nat} (hl : x.length + y.length ≤ 140737488355328) : Zng E Y2 .add ty ox oy (.str x) (.str y) h = .ok (.str (x ++ y)) h := by
  simp only [Zng, cat_str hl, Uu]
end
end
end Go.Abs
namespace Go.Abs
noncomputable section
section
variable {E : Env} {T : Nat → ZE} {p : D → Tr D → Tr D} {k : FR} {kd : FD} {recs : List Rec} {t : Tr D} {h : H} {Q : Uc} {R : Uk} {i : Nat} {inc : List Nat}
def vCd (E : Env) (T : Nat → ZE) (d : D) (args : List D) (h : H) (F : D → H → Prop) (R : Uk) : Prop :=
  match d with
  | .func (.func f) xs ys => VC E T f (xs ++ args ++ ys) h F R
  | .v (.func (.func f) a b) => VC E T f (a.toList.map .of ++ args ++ b.toList.map .of) h F R
  | _ => False
@[congr] theorem vCd_congr {d d' : D} {args args' : List D} {h' : H} {F : D → H → Prop} (hd : d = d') (ha : args = args') (hh : h = h') : vCd E T d args h F R = vCd E T d' args' h' F R := by rw [hd, ha, hh]
theorem Zj2 {f : Nat} {xs ys args : List D} {F : D → H → Prop} : vCd E T (.func (.func f) xs ys) args h F R ↔ VC E T f (xs ++ args ++ ys) h F R := Iff.rfl
theorem Zzl {f : Nat} {a b : Array Value} {args : List D} {F : D → H → Prop} : vCd E T (.v (.func (.func f) a b)) args h F R ↔ VC E T f (a.toList.map .of ++ args ++ b.toList.map .of) h F R := Iff.rfl
def Rows {α : Type} (F : α → List D → Prop) (xs : List α) (cs : List (List D)) : Prop := cs.length = xs.length ∧ ∀ (i : Nat) (x : α) (c : List D), xs[i]? = some x → cs[i]? = some c → F x c
def XK {α : Type} (F : α → List D → Prop) (z : Nat) (d : D) (xs : List α) : Prop := ∃ cs, Rows F xs cs ∧ (∀ c ∈ cs, c.length = z) ∧ ((xs = [] ∧ d = .v (.slice none 0 0)) ∨ ∃ id, d = .sl id cs.length cs.flatten ∧ xs ≠ [])
theorem Rows.nil {α : Type} {F : α → List D → Prop} : Rows F [] [] := ⟨rfl, fun i x c h => by simp at h⟩
theorem Rows.snoc {α : Type} {F : α → List D → Prop} {xs : List α} {cs : List (List D)} {x : α} {c : List D} (hr : Rows F xs cs) (hx : F x c) : Rows F (xs ++ [x]) (cs ++ [c]) := by
  refine ⟨by simp [hr.1], fun i y d h1 h2 => ?_⟩
  by_cases hi : i < xs.length
  · rw [List.getElem?_append_left hi] at h1
    rw [List.getElem?_append_left (by rw [hr.1]; exact hi)] at h2
    exact hr.2 i y d h1 h2
  · rw [List.getElem?_append_right (by omega)] at h1
    rw [List.getElem?_append_right (by rw [hr.1]; omega), hr.1] at h2
    have : i - xs.length = 0 := by
      by_cases h0 : i - xs.length = 0
      · exact h0
      · rw [List.getElem?_eq_none (by simp; omega)] at h1; cases h1
    rw [this] at h1 h2
    simp at h1 h2
    subst h1; subst h2
    exact hx
theorem XK.nil {α : Type} {F : α → List D → Prop} {z : Nat} : XK F z (.v (.slice none 0 0)) [] := ⟨[], Rows.nil, by simp, .inl ⟨rfl, rfl⟩⟩
theorem XK.len {α : Type} {F : α → List D → Prop} {z : Nat} {d : D} {xs : List α} (hr : XK F z d xs) (h : H) : Zgk d h = .ok (.int .i64 (.ofNat xs.length)) h := by
  obtain ⟨cs, r, _, ⟨rfl, rfl⟩ | ⟨id, rfl, _⟩⟩ := hr
  · rfl
  · rw [← r.1]; rfl
end
end
end Go.Abs
namespace Go.Abs
noncomputable section
theorem Zv4 {ty : TypeId} {cs : List D} {off n : Nat} : oRd (some (.cells ty cs)) off n = Z2a (cs.drop off) n := rfl
def oStw (o : Option AObj) (l off n : Nat) (x : D) (h : H) : O D :=
  match o with
  | some (.cells t cs) => bif Nat.beq x.cells.length n && Xa x.cells then (match patch cs off x.cells with
    | some cs => .ok Zj (Wq h l (.cells t cs))
    | none => .fail "store") else .fail "store"
  | _ => .fail "store"
theorem Zkj {n l off : Nat} {x : D} {h : H} : oSt n (.ptr l off) x h = oStw (hget h.mem l) l off n x h := rfl
theorem Zpi {ty : TypeId} {cs : List D} {l off n : Nat} {x : D} {h : H} : oStw (some (.cells ty cs)) l off n x h = bif Nat.beq x.cells.length n && Xa x.cells then (match patch cs off x.cells with
    | some cs => .ok Zj (Wq h l (.cells ty cs))
    | none => .fail "store") else .fail "store" := rfl
end
end Go.Abs
namespace Go.Abs
noncomputable section
def own (d : D) (l : Nat) : Prop :=
  match d with
  | .sl id _ _ => l = id
  | _ => False
def WN (d : D) (l : Nat) : Prop := ¬ own d l
theorem Yv {l : Nat} : WN (.v (.slice none 0 0)) l := fun h => h
theorem Zya {id n : Nat} {cs : List D} {l : Nat} : own (.sl id n cs) l ↔ l = id := Iff.rfl
def Tp (h : H) (ty : TypeId) (d : D) (n : Nat) : Prop := ∀ l : Nat, own d l → l < h.next ∧ hget h.mem l = some (.tip n ty)
theorem Tp.mono {h h' : H} {ty : TypeId} {d : D} {n : Nat} (ht : Tp h ty d n) (hn : h.next ≤ h'.next) (hf : ∀ l : Nat, own d l → l < h.next → hget h'.mem l = hget h.mem l) : Tp h' ty d n := fun l hl => ⟨Nat.lt_of_lt_of_le (ht l hl).1 hn, (hf l hl (ht l hl).1).trans (ht l hl).2⟩
def Zzh (d : D) (n : Nat) : Prop := ∀ l, own d l → l < n
def Sep (d e : D) : Prop := ∀ l, own d l → WN e l
def UP (d' d : D) (n : Nat) : Prop := ∀ l, l < n → (WN d' l ↔ WN d l)
theorem Tp.bnd {h : H} {ty : TypeId} {d : D} {n : Nat} (ht : Tp h ty d n) : Zzh d h.next := fun l hl => (ht l hl).1
theorem X4 {d : D} {n l : Nat} (h : Zzh d n) (hl : n ≤ l) : WN d l := fun ho => absurd (h l ho) (by omega)
theorem X5 {d' d : D} {n l : Nat} (h : UP d' d n) (hl : l < n) (hd : WN d l) : WN d' l := (h l hl).2 hd
theorem X3 {d e : D} {l : Nat} (ho : own d l) (hs : Sep d e) : WN e l := hs l ho
theorem UP.refl {d : D} {n : Nat} : UP d d n := fun l _ => Iff.rfl
theorem UP.trans {d2 d1 d : D} {n m : Nat} (h2 : UP d2 d1 m) (hm : n ≤ m) (h1 : UP d1 d n) : UP d2 d n := fun l hl => (h2 l (by omega)).trans (h1 l hl)
theorem Tp.nil {h : H} {ty : TypeId} {n : Nat} : Tp h ty (.v (.slice none 0 0)) n := fun l hl => hl.elim
theorem Zmx {h : H} {ty : TypeId} {id n k : Nat} {cs : List D} (h1 : id < h.next) (h2 : hget h.mem id = some (.tip n ty)) : Tp h ty (.sl id k cs) n := fun l hl => by
  rw [Zya] at hl
  subst hl
  exact ⟨h1, h2⟩
theorem Zyg {d : D} {x y : Nat} (h1 : own d x) (h2 : WN d y) : x ≠ y := fun e => h2 (e ▸ h1)
theorem Zk0 {d : D} {n m : Nat} (h : Zzh d n) (hm : n ≤ m) : Zzh d m := fun l hl => Nat.lt_of_lt_of_le (h l hl) hm
theorem Yt {id n l : Nat} {cs : List D} (h : l ≠ id) : WN (.sl id n cs) l := fun ho => h ho
theorem Zns {m : Nat} : Zzh (.v (.slice none 0 0)) m := fun l hl => hl.elim
theorem sep2 {d d' e : D} {n m : Nat} (h1 : UP d' d n) (h2 : Zzh e m) (hm : m ≤ n) (h3 : Sep d e) : Sep d' e := fun l hl he => by
  have hlt := Nat.lt_of_lt_of_le (h2 l he) hm
  exact h3 l (Classical.byContradiction fun hn => (h1 l hlt).2 hn hl) he
theorem Vv {d d' e : D} {n m l : Nat} (ho : own d' l) (h1 : UP d' d n) (h2 : Zzh e m) (hm : m ≤ n) (h3 : Sep d e) : WN e l := sep2 h1 h2 hm h3 l ho
theorem sepS {d e : D} (h : Sep d e) : Sep e d := fun l he hd => h l hd he
section
theorem XK.app {α : Type} {F : α → List D → Prop} {z e bytes m : Nat} {d : D} {xs : List α} {x : α} {c : List D} {h : H} (hr : XK F z d xs) (ht : Tp h e d xs.length) (hx : F x c) (hz : c.length = z) (z0 : 0 < z) (ho : Xa c = true) (hs : xs.length ≤ 1000000) (hb : bytes ≤ 1000) :
    ∃ id cs h', Zdv e z bytes d (.sl m 1 c) h = .ok (.sl id (xs.length + 1) cs) h' ∧ XK F z (.sl id (xs.length + 1) cs) (xs ++ [x]) ∧ Tp h' e (.sl id (xs.length + 1) cs) (xs.length + 1) ∧ h.next ≤ h'.next ∧ (∀ l : Nat, l < h.next → WN d l → hget h'.mem l = hget h.mem l) ∧ UP (.sl id (xs.length + 1) cs) d h.next := by
  obtain ⟨cs, r, hcs, ⟨rfl, rfl⟩ | ⟨id, rfl, hne⟩⟩ := hr
  · have hb' : 1 * bytes ≤ 140737488355328 := by omega
    refine ⟨_, _, _, Zv6 (by omega) ho (by rw [hz]; omega) z0 hb' (by omega), ⟨[c], ?_, ?_, .inr ⟨h.next, ?_, by simp⟩⟩, ?_, ?_, ?_, ?_⟩
    · have := Rows.snoc (F := F) Rows.nil hx; simpa using this
    · simp [hz]
    · simp
    · exact Zmx (by simp only [Zm]; simp) (VA rfl)
    · simp only [Zm]; omega
    · intro l hl _
      exact YG (by omega)
    · intro l hl
      exact ⟨fun _ => Yv, fun _ he => by rw [Zya] at he; omega⟩
  · have hid := ht id rfl
    have hb' : (cs.length + 1) * bytes ≤ 140737488355328 := by
      have : (cs.length + 1) * bytes ≤ 1000001 * 1000 := Nat.mul_le_mul (by have := r.1; omega) hb
      omega
    have hfl : cs.flatten.length = cs.length * z := Zl1 hcs
    rw [← r.1] at hid
    rw [← r.1]
    refine ⟨id, _, _, Zta hid.2 (by omega) ho (by rw [hz]; omega) hfl z0 hb' (by have := r.1; omega), ⟨cs ++ [c], r.snoc hx, ?_, .inr ⟨id, ?_, by simp⟩⟩, ?_, ?_, ?_, ?_⟩
    · intro y hy
      rcases List.mem_append.1 hy with hy | hy
      · exact hcs y hy
      · simp at hy; subst hy; exact hz
    · simp
    · exact Zmx (by simp only [Zl]; exact hid.1) Xu
    · simp only [Zl]; omega
    · intro l hl hne
      exact Yn fun he => hne he
    · intro l hl
      exact Iff.rfl
end
section
variable {E : Env} {T : Nat → ZE} {p : D → Tr D → Tr D} {k : FR} {kd : FD} {recs : List Rec} {t : Tr D} {h h0 : H} {Q : Uc} {R : Uk} {i : Nat} {inc : List Nat}
def Z6r (P : Prop) : Prop := P
@[congr] theorem Later_congr {P : Prop} : Z6r P = Z6r P := rfl
theorem Zah {a : FC} (I : Nat → Tr D → H → Prop) {n : Nat} (hi : I n t h) (hb : Z6r (∀ n t h, I n t h → VP E T a t h (Zsq I n Q) R)) : VP E T (ZI a) t h Q R := Zzi I hi hb
theorem Zl7 : ∀ l : List Nat, Ua l l = true := fun l => by rw [Zck]; exact decide_eq_true rfl
theorem Zj8 : D.same (.v (.slice none 0 0)) (.v (.slice none 0 0)) = true := rfl
theorem Zdq : YP [] [] = true := rfl
theorem Up {a b : D} {x y : List D} : YP (a :: x) (b :: y) = (D.same a b && YP x y) := by simp only [YP]
theorem Zj7 {a b : Nat} : D.same (.ptr a b) (.ptr a b) = true := by simp only [D.same, Nat.beq_refl, Bool.and_self]
theorem Zgc {k : IntKind} {a : Int} : D.same (.int k a) (.int k a) = true := by simp only [D.same, decide_true, Bool.and_self]
theorem Zgb {a : List Nat} : D.same (.str a) (.str a) = true := by simp only [D.same, Zl7]
theorem Zrq {a b c d : List D} (h1 : YP a c = true) (h2 : YP b d = true) : YP (a ++ b) (c ++ d) = true := by
  induction a generalizing c with
  | nil => cases c with
    | nil => exact h2
    | cons y c => simp [YP] at h1
  | cons x a ih => cases c with
    | nil => simp [YP] at h1
    | cons y c =>
      simp only [List.cons_append, Up, Bool.and_eq_true] at h1 ⊢
      exact ⟨h1.1, ih h1.2⟩
theorem Zru {α : Type} {F : α → List D → Prop} (hF : ∀ x c, F x c → YP c c = true) : ∀ {cs : List (List D)} {xs : List α}, Rows F xs cs → YP cs.flatten cs.flatten = true
  | [], _, _ => rfl
  | c :: r, [], h => by have := h.1; simp at this
  | c :: r, x :: xs, h => by
    have hc := h.2 0 x c rfl rfl
    have hr : Rows F xs r := ⟨by have := h.1; simpa using this, fun i y d h1 h2 => h.2 (i + 1) y d (by simpa using h1) (by simpa using h2)⟩
    simp only [List.flatten_cons]
    exact Zrq (hF x c hc) (Zru hF hr)
theorem Z3u {α : Type} {F : α → List D → Prop} (hF : ∀ x c, F x c → YP c c = true) {z : Nat} {d : D} {xs : List α} (hr : XK F z d xs) : D.same d d = true := by
  obtain ⟨cs, r, _, ⟨rfl, rfl⟩ | ⟨id, rfl, hne⟩⟩ := hr
  · rfl
  · simp only [D.same, Nat.beq_refl, Zru hF r, Bool.and_self]
theorem Y3 {α : Type} {F : α → List D → Prop} {z : Nat} {d : D} {xs : List α} (hr : XK F z d xs) : d.one = true := by
  obtain ⟨cs, r, _, ⟨rfl, rfl⟩ | ⟨id, rfl, hne⟩⟩ := hr <;> rfl
end
end
end Go.Abs
namespace Go.Abs
noncomputable section
section
variable {E : Env} {T : Nat → ZE} {p : D → Tr D → Tr D} {k : FR} {kd : FD} {recs : List Rec} {t : Tr D} {h h0 : H} {Q : Uc} {R : Uk} {i : Nat} {inc : List Nat}
theorem drop_at {s : List Nat} {n : Nat} (hn : n < s.length) : s.drop n = s.getD n 0 :: s.drop (n + 1) := by
  rw [List.drop_eq_getElem_cons hn]
  simp [List.getD_eq_getElem?_getD, hn]
theorem oIdxs_s {s : List Nat} {kk : IntKind} {n : Nat} (hb : n < s.length) : Zpm (.str s) (.int kk (.ofNat n)) h = .ok (.int .u8 (.ofNat (s.getD n 0))) h := Z5k (drop_at hb)
theorem Zn3 {g : Tr D → D} {lo hi : Option (Tr D → D)} : VD E T (Zf (XQ g lo hi) p kd) recs t h Q R ↔ vD E T (Zpj (lo.map (· t)) (hi.map (· t)) (g t) h) p kd recs t Q R := by
  rw [← Zd0 (E := E) Yb]
  exact Ve fun c => by rw [Zd0, Zd0]
end
end
end Go.Abs
namespace Go.Abs
noncomputable section
section
variable {t : Tr D} {h : H}
end
end
end Go.Abs
