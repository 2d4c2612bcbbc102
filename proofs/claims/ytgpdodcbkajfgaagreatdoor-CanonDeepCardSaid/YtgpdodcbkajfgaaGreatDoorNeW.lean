/- The numbers that occur. -/
import Derived.Test.YtgpdodcbkajfgaaGreatDoorNdWay
set_option linter.unusedVariables false
set_option linter.unusedSimpArgs false
namespace Go.Abs
def okN (_ : List Nat) : Bool := false
end Go.Abs
namespace Go.Abs
abbrev mM (a b : Nat) (k : FR) : FR := fo (fmv (Gt a)) (St b) k
abbrev mL (a b : Nat) (k : FR) : FR := fo (Zh (Gt a)) (St b) k
abbrev mF (n a b : Nat) (k : FR) : FR := fo (u1 (YC n) (Gt a)) (St b) k
abbrev mN (a b : Nat) (k : FR) : FR := fo (u1 ZJ (Gt a)) (St b) k
abbrev mE (n a b : Nat) (k : FR) : FR := fo (u1 (r_ext n) (Gt a)) (St b) k
abbrev mK (f : Nat) (l : List (Tr D → D)) (b : Nat) (k : FR) : FR := fo (Zo f l) (St b) k
abbrev mS (a : Nat) (g : Tr D → D) (k : FR) : FR := fo (ZE 1 (Gt a) g) p0 k
abbrev kI (n : Nat) : Tr D → D := kD (.int .i64 (.ofNat n))
abbrev kS (s : List Nat) : Tr D → D := kD (.str s)
abbrev mQ (t a n : Nat) : FOp := Zc Yc .eql t (.tmp a) (.const (.int .i64 (.ofNat n))) (Gt a) (kD (.int .i64 (.ofNat n)))
abbrev mR (t a n : Nat) : FOp := Zc dneq .neq t (.tmp a) (.const (.int .i64 (.ofNat n))) (Gt a) (kD (.int .i64 (.ofNat n)))
section
variable {E : Env} {T : Nat → FFn} {p : D → Tr D → Tr D} {k : FR} {kd : FD} {recs : List Rec} {t : Tr D} {h : H} {Q : Aft} {R : Pan} {g g1 g2 g3 : Tr D → D} {i : Nat} {inc : List Nat}
def oHd : List D → Option D
  | d :: _ => some d
  | [] => none
def oAg : Option (List D) → Option D
  | some cs => some (.agg cs)
  | none => none
def oFld (ag : Bool) (off n : Nat) (d : D) (h : H) : O D :=
  match d with
  | .agg cs => ok? (bif ag then oAg (oEp (cs.drop off) n) else oHd (cs.drop off)) h "field"
  | _ => .fail "field"
theorem oHd_cons {d : D} {r : List D} : oHd (d :: r) = some d := rfl
theorem oAg_some {cs : List D} : oAg (some cs) = some (.agg cs) := rfl
theorem partD_eq (ag : Bool) (n : Nat) (cs : List D) (off : Nat) : partD ag n cs off = bif ag then oAg (oEp (cs.drop off) n) else oHd (cs.drop off) := by
  cases ag with
  | true =>
    simp only [partD, cond_true, oEp]
    cases Nat.beq ((cs.drop off).take n).length n <;> rfl
  | false => simp only [partD, cond_false]; cases cs.drop off <;> rfl
theorem oFld_eq {ag : Bool} {off n : Nat} {d : D} (hd : d = g t) : Xf ag off n (.d d) E Yx (act t) h = oFld ag off n d h := by
  cases d <;> simp only [Xf, oFld, AAct.eval, partD_eq]
theorem oFld_agg {ag : Bool} {off n : Nat} {cs : List D} : oFld ag off n (.agg cs) h = ok? (bif ag then oAg (oEp (cs.drop off) n) else oHd (cs.drop off)) h "field" := rfl
theorem vr_fld {ag : Bool} {off n : Nat} : VR E T (fo (u1 (Xf ag off n) g) p k) t h Q R ↔ vO E T (oFld ag off n (g t) h) p k t Q R := by
  rw [← oFld_eq (E := E) rfl]; exact YP fun _ => rfl
theorem vd_fld {ag : Bool} {off n : Nat} : VD E T (fdo (u1 (Xf ag off n) g) p kd) recs t h Q R ↔ vD E T (oFld ag off n (g t) h) p kd recs t Q R := by
  rw [← oFld_eq (E := E) rfl]; exact vd_fo fun _ => rfl
theorem vr_iface {ty : TypeId} : VR E T (fo (u1 (YX ty) g) p k) t h Q R ↔ VR E T k (p (.iface ty (g t)) t) h Q R := YP fun _ => rfl
def oPan (d : D) (h : H) : O D :=
  match d with
  | .iface t d => .panic (.iface t d) h
  | _ => .fail "panic"
theorem oPan_i {ty : TypeId} {d : D} : oPan (.iface ty d) h = .panic (.iface ty d) h := rfl
theorem vr_panic : VR E T (fo (u1 Wb g) p k) t h Q R ↔ vO E T (oPan (g t) h) p k t Q R := YP fun _ => rfl
theorem vr_mkf {fn : Fn} {xs ys : List (Tr D → D)} : VR E T (fo (fmkf fn xs ys) p k) t h Q R ↔ VR E T k (p (.func fn (evs xs t) (evs ys t)) t) h Q R := YP fun _ => rfl
theorem vd_mkf {fn : Fn} {xs ys : List (Tr D → D)} : VD E T (fdo (fmkf fn xs ys) p kd) recs t h Q R ↔ VD E T kd recs (p (.func fn (evs xs t) (evs ys t)) t) h Q R := vd_fo fun _ => rfl
theorem vr_calld {f : Nat} {xs ys : List D} {gs : List (Tr D → D)} (hg : g t = .func (.func f) xs ys) (hc : VC E T f (xs ++ evs gs t ++ ys) h (fun d h' => VR E T k (p d t) h' Q R) R) : VR E T (fo (Xk g gs) p k) t h Q R := by
  obtain ⟨o, ⟨M, hM⟩, ho⟩ := hc
  have e : ∀ c, Xk g gs E c t h = c f (xs ++ evs gs t ++ ys) h := fun c => by simp only [Xk, hg, callD]
  cases o with
  | ok d h1 =>
    obtain ⟨x, ⟨N, hN⟩, hq⟩ := ho
    refine ⟨x, ⟨N + M, fun n hn => ?_⟩, hq⟩
    show O.casesOn (motive := fun _ => XT) (Xk g gs E (Yb E T n) t h) _ _ _ = x
    rw [e, hM n (by omega)]
    exact hN n (by omega)
  | panic d h1 => exact ⟨.panic d h1, ⟨M, fun n hn => by show O.casesOn (motive := fun _ => XT) (Xk g gs E (Yb E T n) t h) _ _ _ = _; rw [e, hM n hn]⟩, ho⟩
  | fail w => exact ho.elim
def vDg (E : Env) (T : Nat → FFn) (b : Bool) (y : FD → FD) (p : D → Tr D → Tr D) (kd : FD) (recs : List Rec) (t : Tr D) (h : H) (Q : Aft) (R : Pan) : Prop := bif b then VD E T (y kd) recs t h Q R else VD E T kd recs (p Yr t) h Q R
@[congr] theorem vDg_congr {b b' : Bool} {y : FD → FD} {recs' : List Rec} {t' : Tr D} {h' : H} (hb : b = b') (hr : recs = recs') (ht : t = t') (hh : h = h') : vDg E T b y p kd recs t h Q R = vDg E T b' y p kd recs' t' h' Q R := by rw [hb, hr, ht, hh]
theorem vDg_t {y : FD → FD} : vDg E T true y p kd recs t h Q R ↔ VD E T (y kd) recs t h Q R := Iff.rfl
theorem vDg_f {y : FD → FD} : vDg E T false y p kd recs t h Q R ↔ VD E T kd recs (p Yr t) h Q R := Iff.rfl
theorem vd_fdg {w : Bool} {y : FD → FD} : VD E T (fdg g w y p kd) recs t h Q R ↔ vDg E T (wanted (g t) w) y p kd recs t h Q R := by
  unfold vDg VD RunD
  cases hw : wanted (g t) w <;> simp only [fdg, hw, cond_true, cond_false]
theorem vd_not {g : Tr D → D} : VD E T (fdo (u1 (r_un .not) g) p kd) recs t h Q R ↔ vD E T (oNot E (g t) h) p kd recs t Q R := vd_fo fun _ => rfl
theorem vd_pick : VD E T (fdo (ZO g1 g2 g3) p kd) recs t h Q R ↔ vD E T (oPick (g1 t) (g2 t) (g3 t) h) p kd recs t Q R := vd_fo fun _ => rfl
theorem vd_len : VD E T (fdo (u1 Xl g) p kd) recs t h Q R ↔ vD E T (oLen (g t) h) p kd recs t Q R := vd_fo fun _ => rfl
theorem vd_lens : VD E T (fdo (u1 Xo g) p kd) recs t h Q R ↔ vD E T (oLens (g t) h) p kd recs t Q R := vd_fo fun _ => rfl
theorem vd_box {ty : TypeId} : VD E T (fdo (X0 ty g) p kd) recs t h Q R ↔ VD E T kd recs (p (.ptr h.next 0) t) (W8 h (.cells ty (g t).cells)) Q R := vd_fo fun _ => rfl
theorem vd_sbin {op : BinOp} {ty : TypeId} {ox oy : Operand} : VD E T (fdo (sbin op ty ox oy g1 g2) p kd) recs t h Q R ↔ vD E T (ok? (binD E op ty ox oy (g1 t) (g2 t)) h "bin") p kd recs t Q R := vd_fo fun _ => rfl
theorem Zi {i : Nat} {inc : List Nat} {f : Nat} {gs : List (Tr D → D)} (hc : VC E T f (evs gs t) h (fun d h' => YL inc h' recs = true ∧ VD E T kd (.loud i h :: recs) (p d t) h' Q R) R) : VD E T (fdp i inc (Zo f gs) p kd) recs t h Q R := by
  obtain ⟨o, ⟨M, hM⟩, ho⟩ := hc
  cases o with
  | ok d h1 =>
    obtain ⟨hb, x, ⟨N, hN⟩, hq⟩ := ho
    refine ⟨x, ⟨N + M, fun m hm => ?_⟩, hq⟩
    show O.casesOn (motive := fun _ => XT) (Yb E T m f (evs gs t) h) _ _ _ = x
    rw [hM m (by omega)]
    simp only [hb, cond_true]
    exact hN m (by omega)
  | panic d h' =>
    refine ⟨.panic d h', ⟨M, fun m hm => ?_⟩, ho⟩
    show O.casesOn (motive := fun _ => XT) (Yb E T m f (evs gs t) h) _ _ _ = _
    rw [hM m hm]
  | fail w => exact ho.elim
def oIdxs (x i : D) (h : H) : O D :=
  match x, i with
  | .str s, .int _ (.ofNat i) => ok? (match s.drop i with | b :: _ => some (.int .u8 (.ofNat b)) | [] => none) h "index: string"
  | _, _ => .fail "index: string"
theorem oIdxs_eq {x y : D} : XD (.d x) (.d y) E Yx (act t) h = oIdxs x y h := by
  cases x <;> try rfl
  cases y <;> try rfl
  rename_i s kk n
  cases n with
  | negSucc n => rfl
  | ofNat n =>
    simp only [XD, oIdxs, AAct.eval]
    cases s.drop n <;> rfl
theorem oIdxs_at {s : List Nat} {kk : IntKind} {n b : Nat} {r : List Nat} (hb : s.drop n = b :: r) : oIdxs (.str s) (.int kk (.ofNat n)) h = .ok (.int .u8 (.ofNat b)) h := by simp only [oIdxs, hb, ok?]
theorem vr_idxs : VR E T (fo (u2 XD g1 g2) p k) t h Q R ↔ vO E T (oIdxs (g1 t) (g2 t) h) p k t Q R := by
  rw [← oIdxs_eq (E := E)]; exact YP fun _ => rfl
theorem vd_idxs : VD E T (fdo (u2 XD g1 g2) p kd) recs t h Q R ↔ vD E T (oIdxs (g1 t) (g2 t) h) p kd recs t Q R := by
  rw [← oIdxs_eq (E := E)]; exact vd_fo fun _ => rfl
theorem oEq_str {ty : TypeId} {ox oy : Operand} {a b : List Nat} : oInt E Yc .eql ty ox oy (.str a) (.str b) h = .ok (.v (.bool (beqL a b))) h := rfl
theorem oNe_strs {ty : TypeId} {ox oy : Operand} {a b : List Nat} : oInt E dneq .neq ty ox oy (.str a) (.str b) h = .ok (.v (.bool (!beqL a b))) h := rfl
theorem beqL_dec (a b : List Nat) : beqL a b = decide (a = b) := by
  induction a generalizing b with
  | nil => cases b <;> simp [beqL]
  | cons x a ih =>
    cases b with
    | nil => simp [beqL]
    | cons y b => simp only [beqL, ih, List.cons.injEq, Bool.decide_and, XY]
theorem sub_small {m n : Nat} (hn : n ≤ m) (hm : m ≤ 9223372036854775807) : dsub .i64 (.ofNat m) (.ofNat n) = .int .i64 (.ofNat (m - n)) := by
  have e : iSub (.ofNat m) (.ofNat n) = .ofNat (m - n) := by rw [iSub_eq]; simp; omega
  simp only [dsub, e, wrap_ok (show m - n ≤ 9223372036854775807 by omega)]
def Arr (z : Nat) (d : D) (cs : List (List D)) : Prop := (∀ c ∈ cs, c.length = z) ∧ ((cs = [] ∧ d = .v (.slice none 0 0)) ∨ ∃ id, d = .sl id cs.length cs.flatten)
theorem flat_lenZ {z : Nat} : ∀ {cs : List (List D)}, (∀ c ∈ cs, c.length = z) → cs.flatten.length = cs.length * z
  | [], _ => by simp
  | c :: r, h => by
    rw [List.flatten_cons, List.length_append, flat_lenZ fun x hx => h x (List.mem_cons_of_mem _ hx), h c (List.mem_cons_self ..), List.length_cons, Nat.succ_mul]
    omega
theorem flat_dropZ {z : Nat} : ∀ {cs : List (List D)} (h : ∀ c ∈ cs, c.length = z) {i : Nat} (hi : i < cs.length), cs.flatten.drop (i * z) = cs[i] ++ (cs.drop (i + 1)).flatten
  | [], _, i, hi => by cases hi
  | c :: r, h, 0, _ => by simp
  | c :: r, h, i + 1, hi => by
    have h4 : c.length = z := h c (List.mem_cons_self ..)
    rw [List.flatten_cons, List.getElem_cons_succ, List.drop_succ_cons, ← flat_dropZ (fun x hx => h x (List.mem_cons_of_mem _ hx)) (Nat.lt_of_succ_lt_succ hi), Nat.succ_mul, Nat.add_comm, ← h4, ← List.drop_drop, List.drop_left]
theorem Arr.len {z : Nat} {d : D} {cs : List (List D)} (ha : Arr z d cs) : oLen d h = .ok (.int .i64 (.ofNat cs.length)) h := by
  rcases ha.2 with ⟨rfl, rfl⟩ | ⟨id, rfl⟩ <;> rfl
theorem Arr.at {z : Nat} {d : D} {cs : List (List D)} (ha : Arr z d cs) (hz : 0 < z) {kk : IntKind} {i : Nat} (hi : i < cs.length) {c : List D} (hc : cs[i]? = some c) : oIxs z d (.int kk (.ofNat i)) h = .ok (.ep (c ++ (cs.drop (i + 1)).flatten)) h := by
  have hc' : cs[i] = c := by rw [List.getElem?_eq_getElem hi] at hc; exact Option.some.inj hc
  rcases ha.2 with ⟨rfl, rfl⟩ | ⟨id, rfl⟩
  · cases hi
  · have hr := flat_dropZ ha.1 hi
    have hl := ha.1 _ (List.getElem_mem hi)
    rw [hc'] at hr hl
    cases c with
    | nil => simp at hl; omega
    | cons a r => exact oIxs_sl hi hr
end
end Go.Abs
namespace Go.Abs
section
variable {E : Env} {T : Nat → FFn} {p : D → Tr D → Tr D} {k : FR} {kd : FD} {recs : List Rec} {t : Tr D} {h : H} {Q : Aft} {R : Pan} {a b : FC} {i : Nat} {inc : List Nat}
@[congr] theorem VC_congr {f : Nat} {args args' : List D} {h' : H} {Q : D → H → Prop} (ha : args = args') (hh : h = h') : VC E T f args h Q R = VC E T f args' h' Q R := by rw [ha, hh]
theorem ZL {P : Prop} [Decidable P] (h1 : P → VP E T a t h Q R) (h2 : ¬ P → VP E T b t h Q R) : vB E T (.v (.bool (decide P))) a b t h Q R := by
  by_cases hp : P
  · rw [decide_eq_true hp]; exact h1 hp
  · rw [decide_eq_false hp]; exact h2 hp
theorem ZC {P : Prop} [Decidable P] (h1 : P → VP E T b t h Q R) (h2 : ¬ P → VP E T a t h Q R) : vB E T (.v (.bool (!decide P))) a b t h Q R := by
  by_cases hp : P
  · rw [decide_eq_true hp]; exact h1 hp
  · rw [decide_eq_false hp]; exact h2 hp
theorem wanted_t {w : Bool} : wanted (.v (.bool true)) w = w := rfl
theorem wanted_f {w : Bool} : wanted (.v (.bool false)) w = !w := rfl
theorem ZK {P : Prop} [Decidable P] {w : Bool} {f : FOp} (h1 : P → vG E T w f p k t h Q R) (h2 : ¬ P → vG E T (!w) f p k t h Q R) : vG E T (wanted (.v (.bool (decide P))) w) f p k t h Q R := by
  by_cases hp : P
  · rw [decide_eq_true hp, wanted_t]; exact h1 hp
  · rw [decide_eq_false hp, wanted_f]; exact h2 hp
theorem ZA {P : Prop} [Decidable P] {w : Bool} {f : FOp} (h1 : P → vG E T (!w) f p k t h Q R) (h2 : ¬ P → vG E T w f p k t h Q R) : vG E T (wanted (.v (.bool (!decide P))) w) f p k t h Q R := by
  by_cases hp : P
  · rw [decide_eq_true hp]; exact h1 hp
  · rw [decide_eq_false hp]; exact h2 hp
theorem ZB {P : Prop} [Decidable P] {w : Bool} {y : FD → FD} (h1 : P → vDg E T w y p kd recs t h Q R) (h2 : ¬ P → vDg E T (!w) y p kd recs t h Q R) : vDg E T (wanted (.v (.bool (decide P))) w) y p kd recs t h Q R := by
  by_cases hp : P
  · rw [decide_eq_true hp, wanted_t]; exact h1 hp
  · rw [decide_eq_false hp, wanted_f]; exact h2 hp
theorem Zj {P : Prop} [Decidable P] {w : Bool} {y : FD → FD} (h1 : P → vDg E T (!w) y p kd recs t h Q R) (h2 : ¬ P → vDg E T w y p kd recs t h Q R) : vDg E T (wanted (.v (.bool (!decide P))) w) y p kd recs t h Q R := by
  by_cases hp : P
  · rw [decide_eq_true hp]; exact h1 hp
  · rw [decide_eq_false hp]; exact h2 hp
theorem q_dec {P : Prop} [Decidable P] {F : D → H → Prop} (h1 : P → F (.v (.bool true)) h) (h2 : ¬ P → F (.v (.bool false)) h) : F (.v (.bool (decide P))) h := by
  by_cases hp : P
  · rw [decide_eq_true hp]; exact h1 hp
  · rw [decide_eq_false hp]; exact h2 hp
theorem q_ndec {P : Prop} [Decidable P] {F : D → H → Prop} (h1 : P → F (.v (.bool false)) h) (h2 : ¬ P → F (.v (.bool true)) h) : F (.v (.bool (!decide P))) h := by
  by_cases hp : P
  · rw [decide_eq_true hp]; exact h1 hp
  · rw [decide_eq_false hp]; exact h2 hp
def Lroll (E : Env) (T : Nat → FFn) (a : FC) (Q : Aft) (R : Pan) : Aft := fun e t h =>
  match e with
  | .normal => VP E T (Y3 a) t h Q R
  | .exit i => Q (.exit i) t h
  | .ret => Q .ret t h
theorem lroll_n : Lroll E T a Q R .normal t h ↔ VP E T (Y3 a) t h Q R := Iff.rfl
theorem lroll_e : Lroll E T a Q R (.exit i) t h ↔ Q (.exit i) t h := Iff.rfl
theorem lroll_r : Lroll E T a Q R .ret t h ↔ Q .ret t h := Iff.rfl
theorem Yk (hq : VP E T a t h (Lroll E T a Q R) R) : VP E T (Y3 a) t h Q R := by
  obtain ⟨x, hr, hq⟩ := hq
  cases x with
  | out e t1 h1 => cases e with
    | normal =>
      obtain ⟨x, hr', hq⟩ := hq
      exact ⟨_, runs_loop hr hr', hq⟩
    | exit i => exact ⟨_, runs_loop_out hr trivial, hq⟩
    | ret => exact ⟨_, runs_loop_out hr trivial, hq⟩
  | panic d h1 => exact ⟨_, runs_loop_pan hr, hq⟩
  | fail w => exact hq.elim
theorem vp_keep6 (i j l m n o : Nat) {c : FC} (hq : ∀ t', Gt i t' = Gt i t → Gt j t' = Gt j t → Gt l t' = Gt l t → Gt m t' = Gt m t → Gt n t' = Gt n t → Gt o t' = Gt o t → VP E T c t' h Q R) : VP E T c t h Q R := hq t rfl rfl rfl rfl rfl rfl
def oIdxa (ag : Bool) (n size : Nat) (x i : D) (h : H) : O D := r_idxa ag n size (.d x) (.d i) E Yx (act .nil) h
def oPart (o : Option D) (h : H) : O D := ok? o h "index: value"
theorem oIdxa_f {n size j : Nat} {kk : IntKind} {cs : List D} (hj : j < n) : oIdxa (E := E) false n size (.agg cs) (.int kk (.ofNat j)) h = oPart (oHd (cs.drop (j * size))) h := by
  have e : Nat.blt j n = true := by rw [Nat.blt_eq]; exact hj
  simp only [oIdxa, r_idxa, AAct.eval, inRange, e, cond_true, partD_eq, cond_false, oPart]
theorem oPart_some {d : D} : oPart (some d) h = .ok d h := rfl
theorem vr_idxa {g1 g2 : Tr D → D} {ag : Bool} {n size : Nat} : VR E T (fo (u2 (r_idxa ag n size) g1 g2) p k) t h Q R ↔ vO E T (oIdxa (E := E) ag n size (g1 t) (g2 t) h) p k t Q R := YP fun _ => rfl
theorem oAdd_str {ty : TypeId} {ox oy : Operand} {x y : List Nat} (hl : x.length + y.length ≤ 140737488355328) : oInt E Y7 .add ty ox oy (.str x) (.str y) h = .ok (.str (x ++ y)) h := by
  simp only [oInt, cat_str hl, ok?]
end
end Go.Abs
namespace Go.Abs
section
variable {E : Env} {T : Nat → FFn} {p : D → Tr D → Tr D} {k : FR} {kd : FD} {recs : List Rec} {t : Tr D} {h : H} {Q : Aft} {R : Pan} {i : Nat} {inc : List Nat}
def vCd (E : Env) (T : Nat → FFn) (d : D) (args : List D) (h : H) (F : D → H → Prop) (R : Pan) : Prop :=
  match d with
  | .func (.func f) xs ys => VC E T f (xs ++ args ++ ys) h F R
  | .v (.func (.func f) a b) => VC E T f (a.toList.map .of ++ args ++ b.toList.map .of) h F R
  | _ => False
@[congr] theorem vCd_congr {d d' : D} {args args' : List D} {h' : H} {F : D → H → Prop} (hd : d = d') (ha : args = args') (hh : h = h') : vCd E T d args h F R = vCd E T d' args' h' F R := by rw [hd, ha, hh]
theorem vCd_func {f : Nat} {xs ys args : List D} {F : D → H → Prop} : vCd E T (.func (.func f) xs ys) args h F R ↔ VC E T f (xs ++ args ++ ys) h F R := Iff.rfl
theorem vCd_v {f : Nat} {a b : Array Value} {args : List D} {F : D → H → Prop} : vCd E T (.v (.func (.func f) a b)) args h F R ↔ VC E T f (a.toList.map .of ++ args ++ b.toList.map .of) h F R := Iff.rfl
theorem vr_cd {g : Tr D → D} {gs : List (Tr D → D)} (hc : vCd E T (g t) (evs gs t) h (fun d h' => VR E T k (p d t) h' Q R) R) : VR E T (fo (Xk g gs) p k) t h Q R := by
  unfold vCd at hc
  split at hc
  · rename_i hg; exact vr_calld hg hc
  · rename_i f a b hg
    obtain ⟨o, ⟨M, hM⟩, ho⟩ := hc
    have e : ∀ c, Xk g gs E c t h = c f (a.toList.map .of ++ evs gs t ++ b.toList.map .of) h := fun c => by simp only [Xk, hg, callD]
    cases o with
    | ok d h1 =>
      obtain ⟨x, ⟨N, hN⟩, hq⟩ := ho
      refine ⟨x, ⟨N + M, fun n hn => ?_⟩, hq⟩
      show O.casesOn (motive := fun _ => XT) (Xk g gs E (Yb E T n) t h) _ _ _ = x
      rw [e, hM n (by omega)]
      exact hN n (by omega)
    | panic d h1 => exact ⟨.panic d h1, ⟨M, fun n hn => by show O.casesOn (motive := fun _ => XT) (Xk g gs E (Yb E T n) t h) _ _ _ = _; rw [e, hM n hn]⟩, ho⟩
    | fail w => exact ho.elim
  · exact hc.elim
def Rows {α : Type} (F : α → List D → Prop) (xs : List α) (cs : List (List D)) : Prop := cs.length = xs.length ∧ ∀ (i : Nat) (x : α) (c : List D), xs[i]? = some x → cs[i]? = some c → F x c
def SlR {α : Type} (F : α → List D → Prop) (z : Nat) (d : D) (xs : List α) : Prop := ∃ cs, Rows F xs cs ∧ (∀ c ∈ cs, c.length = z) ∧ ((xs = [] ∧ d = .v (.slice none 0 0)) ∨ ∃ id, d = .sl id cs.length cs.flatten ∧ xs ≠ [])
theorem Rows.nil {α : Type} {F : α → List D → Prop} : Rows F [] [] := ⟨rfl, fun i x c h => by simp at h⟩
theorem Rows.snoc {α : Type} {F : α → List D → Prop} {xs : List α} {cs : List (List D)} {x : α} {c : List D} (hr : Rows F xs cs) (hx : F x c) : Rows F (xs ++ [x]) (cs ++ [c]) := by
  refine ⟨by simp [hr.1], fun i y d h1 h2 => ?_⟩
  by_cases hi : i < xs.length
  · rw [List.getElem?_append_left hi] at h1
    rw [List.getElem?_append_left (by rw [hr.1]; exact hi)] at h2
    exact hr.2 i y d h1 h2
  · rw [List.getElem?_append_right (by omega)] at h1
    rw [List.getElem?_append_right (by rw [hr.1]; omega), hr.1] at h2
    have : i - xs.length = 0 := by
      by_cases h0 : i - xs.length = 0
      · exact h0
      · rw [List.getElem?_eq_none (by simp; omega)] at h1; cases h1
    rw [this] at h1 h2
    simp at h1 h2
    subst h1; subst h2
    exact hx
theorem SlR.nil {α : Type} {F : α → List D → Prop} {z : Nat} : SlR F z (.v (.slice none 0 0)) [] := ⟨[], Rows.nil, by simp, .inl ⟨rfl, rfl⟩⟩
theorem SlR.len {α : Type} {F : α → List D → Prop} {z : Nat} {d : D} {xs : List α} (hr : SlR F z d xs) (h : H) : oLen d h = .ok (.int .i64 (.ofNat xs.length)) h := by
  obtain ⟨cs, r, _, ⟨rfl, rfl⟩ | ⟨id, rfl, _⟩⟩ := hr
  · rfl
  · rw [← r.1]; rfl
end
end Go.Abs
namespace Go.Abs
theorem oRd_c {ty : TypeId} {cs : List D} {off n : Nat} : oRd (some (.cells ty cs)) off n = oEp (cs.drop off) n := rfl
def oStw (o : Option AObj) (l off n : Nat) (x : D) (h : H) : O D :=
  match o with
  | some (.cells t cs) => bif Nat.beq x.cells.length n && X5 x.cells then (match patch cs off x.cells with
    | some cs => .ok Yr (W7 h l (.cells t cs))
    | none => .fail "store") else .fail "store"
  | _ => .fail "store"
theorem oStw_eq {n l off : Nat} {x : D} {h : H} : oSt n (.ptr l off) x h = oStw (Zg h.mem l) l off n x h := rfl
theorem oStw_c {ty : TypeId} {cs : List D} {l off n : Nat} {x : D} {h : H} : oStw (some (.cells ty cs)) l off n x h = bif Nat.beq x.cells.length n && X5 x.cells then (match patch cs off x.cells with
    | some cs => .ok Yr (W7 h l (.cells ty cs))
    | none => .fail "store") else .fail "store" := rfl
end Go.Abs
namespace Go.Abs
def own (d : D) (l : Nat) : Prop :=
  match d with
  | .sl id _ _ => l = id
  | _ => False
def ZQ (d : D) (l : Nat) : Prop := ¬ own d l
theorem Zf {l : Nat} : ZQ (.v (.slice none 0 0)) l := fun h => h
theorem own_sl {id n : Nat} {cs : List D} {l : Nat} : own (.sl id n cs) l ↔ l = id := Iff.rfl
def Tp (h : H) (ty : TypeId) (d : D) (n : Nat) : Prop := ∀ l : Nat, own d l → l < h.next ∧ Zg h.mem l = some (.tip n ty)
theorem Tp.mono {h h' : H} {ty : TypeId} {d : D} {n : Nat} (ht : Tp h ty d n) (hn : h.next ≤ h'.next) (hf : ∀ l : Nat, own d l → l < h.next → Zg h'.mem l = Zg h.mem l) : Tp h' ty d n := fun l hl => ⟨Nat.lt_of_lt_of_le (ht l hl).1 hn, (hf l hl (ht l hl).1).trans (ht l hl).2⟩
def Bnd (d : D) (n : Nat) : Prop := ∀ l, own d l → l < n
def Sep (d e : D) : Prop := ∀ l, own d l → ZQ e l
def ZW (d' d : D) (n : Nat) : Prop := ∀ l, l < n → (ZQ d' l ↔ ZQ d l)
theorem Tp.bnd {h : H} {ty : TypeId} {d : D} {n : Nat} (ht : Tp h ty d n) : Bnd d h.next := fun l hl => (ht l hl).1
theorem Zw {d : D} {n l : Nat} (h : Bnd d n) (hl : n ≤ l) : ZQ d l := fun ho => absurd (h l ho) (by omega)
theorem Zx {d' d : D} {n l : Nat} (h : ZW d' d n) (hl : l < n) (hd : ZQ d l) : ZQ d' l := (h l hl).2 hd
theorem Zv {d e : D} {l : Nat} (ho : own d l) (hs : Sep d e) : ZQ e l := hs l ho
theorem ZW.refl {d : D} {n : Nat} : ZW d d n := fun l _ => Iff.rfl
theorem ZW.trans {d2 d1 d : D} {n m : Nat} (h2 : ZW d2 d1 m) (hm : n ≤ m) (h1 : ZW d1 d n) : ZW d2 d n := fun l hl => (h2 l (by omega)).trans (h1 l hl)
theorem Tp.nil {h : H} {ty : TypeId} {n : Nat} : Tp h ty (.v (.slice none 0 0)) n := fun l hl => hl.elim
theorem Tp_mk {h : H} {ty : TypeId} {id n k : Nat} {cs : List D} (h1 : id < h.next) (h2 : Zg h.mem id = some (.tip n ty)) : Tp h ty (.sl id k cs) n := fun l hl => by
  rw [own_sl] at hl
  subst hl
  exact ⟨h1, h2⟩
theorem Yy {d : D} {x y : Nat} (h1 : own d x) (h2 : ZQ d y) : x ≠ y := fun e => h2 (e ▸ h1)
theorem ZX {d : D} {n m : Nat} (h : Bnd d n) (hm : n ≤ m) : Bnd d m := fun l hl => Nat.lt_of_lt_of_le (h l hl) hm
theorem nown_sl {id n l : Nat} {cs : List D} (h : l ≠ id) : ZQ (.sl id n cs) l := fun ho => h ho
theorem Y9 {m : Nat} : Bnd (.v (.slice none 0 0)) m := fun l hl => hl.elim
theorem bnd_sl {id n m : Nat} {cs : List D} (h : id < m) : Bnd (.sl id n cs) m := fun l hl => by rw [own_sl] at hl; omega
theorem sep_sl {id n : Nat} {cs : List D} {e : D} (h : ZQ e id) : Sep (.sl id n cs) e := fun l hl => by rw [own_sl] at hl; subst hl; exact h
theorem sep_sl' {id n : Nat} {cs : List D} {e : D} (h : ZQ e id) : Sep e (.sl id n cs) := fun l hl ho => by rw [own_sl] at ho; subst ho; exact h hl
theorem iff_slN {id k n : Nat} {cs : List D} (h : n ≤ id) : ZW (.sl id k cs) (.v (.slice none 0 0)) n := fun l hl => ⟨fun _ => Zf, fun _ ho => by rw [own_sl] at ho; omega⟩
theorem W6 {d d' e : D} {n m : Nat} (h1 : ZW d' d n) (h2 : Bnd e m) (hm : m ≤ n) (h3 : Sep e d) : Sep e d' := fun l hl => (h1 l (Nat.lt_of_lt_of_le (h2 l hl) hm)).2 (h3 l hl)
theorem W0 {d d' e : D} {n m : Nat} (h1 : ZW d' d n) (h2 : Bnd e m) (hm : m ≤ n) (h3 : Sep d e) : Sep d' e := fun l hl he => by
  have hlt := Nat.lt_of_lt_of_le (h2 l he) hm
  exact h3 l (Classical.byContradiction fun hn => (h1 l hlt).2 hn hl) he
theorem Y5 {d d' e : D} {n m l : Nat} (ho : own d' l) (h1 : ZW d' d n) (h2 : Bnd e m) (hm : m ≤ n) (h3 : Sep d e) : ZQ e l := W0 h1 h2 hm h3 l ho
theorem sepS {d e : D} (h : Sep d e) : Sep e d := fun l he hd => h l hd he
theorem W5 {e : D} : Sep (.v (.slice none 0 0)) e := fun l hl => hl.elim
theorem X6 {d : D} : Sep d (.v (.slice none 0 0)) := fun l hl => Zf
section
theorem SlR.app {α : Type} {F : α → List D → Prop} {z e bytes m : Nat} {d : D} {xs : List α} {x : α} {c : List D} {h : H} (hr : SlR F z d xs) (ht : Tp h e d xs.length) (hx : F x c) (hz : c.length = z) (z0 : 0 < z) (ho : X5 c = true) (hs : xs.length ≤ 1000000) (hb : bytes ≤ 1000) :
    ∃ id cs h', oApp e z bytes d (.sl m 1 c) h = .ok (.sl id (xs.length + 1) cs) h' ∧ SlR F z (.sl id (xs.length + 1) cs) (xs ++ [x]) ∧ Tp h' e (.sl id (xs.length + 1) cs) (xs.length + 1) ∧ h.next ≤ h'.next ∧ (∀ l : Nat, l < h.next → ZQ d l → Zg h'.mem l = Zg h.mem l) ∧ ZW (.sl id (xs.length + 1) cs) d h.next := by
  obtain ⟨cs, r, hcs, ⟨rfl, rfl⟩ | ⟨id, rfl, hne⟩⟩ := hr
  · have hb' : 1 * bytes ≤ 140737488355328 := by omega
    refine ⟨_, _, _, oApp_nil (by omega) ho (by rw [hz]; omega) z0 hb' (by omega), ⟨[c], ?_, ?_, .inr ⟨h.next, ?_, by simp⟩⟩, ?_, ?_, ?_, ?_⟩
    · have := Rows.snoc (F := F) Rows.nil hx; simpa using this
    · simp [hz]
    · simp
    · exact Tp_mk (by simp only [Z4]; simp) (hget_new_eq rfl)
    · simp only [Z4]; omega
    · intro l hl _
      exact YA (by omega)
    · intro l hl
      exact ⟨fun _ => Zf, fun _ he => by rw [own_sl] at he; omega⟩
  · have hid := ht id rfl
    have hb' : (cs.length + 1) * bytes ≤ 140737488355328 := by
      have : (cs.length + 1) * bytes ≤ 1000001 * 1000 := Nat.mul_le_mul (by have := r.1; omega) hb
      omega
    have hfl : cs.flatten.length = cs.length * z := flat_lenZ hcs
    rw [← r.1] at hid
    rw [← r.1]
    refine ⟨id, _, _, oApp_sl hid.2 (by omega) ho (by rw [hz]; omega) hfl z0 hb' (by have := r.1; omega), ⟨cs ++ [c], r.snoc hx, ?_, .inr ⟨id, ?_, by simp⟩⟩, ?_, ?_, ?_, ?_⟩
    · intro y hy
      rcases List.mem_append.1 hy with hy | hy
      · exact hcs y hy
      · simp at hy; subst hy; exact hz
    · simp
    · exact Tp_mk (by simp only [Z3]; exact hid.1) X7
    · simp only [Z3]; omega
    · intro l hl hne
      exact Yi fun he => hne he
    · intro l hl
      exact Iff.rfl
end
section
variable {E : Env} {T : Nat → FFn} {p : D → Tr D → Tr D} {k : FR} {kd : FD} {recs : List Rec} {t : Tr D} {h h0 : H} {Q : Aft} {R : Pan} {i : Nat} {inc : List Nat}
def Later (P : Prop) : Prop := P
@[congr] theorem Later_congr {P : Prop} : Later P = Later P := rfl
theorem W4 {a : FC} (I : Nat → Tr D → H → Prop) {n : Nat} (hi : I n t h) (hb : Later (∀ n t h, I n t h → VP E T a t h (Lloop I n Q) R)) : VP E T (Y3 a) t h Q R := vp_loop I hi hb
theorem beqL_self : ∀ l : List Nat, beqL l l = true := fun l => by rw [beqL_dec]; exact decide_eq_true rfl
theorem same_nil : D.same (.v (.slice none 0 0)) (.v (.slice none 0 0)) = true := rfl
theorem YN : YQ [] [] = true := rfl
theorem Yw {a b : D} {x y : List D} : YQ (a :: x) (b :: y) = (D.same a b && YQ x y) := by simp only [YQ]
theorem same_ptr {a b : Nat} : D.same (.ptr a b) (.ptr a b) = true := by simp only [D.same, Nat.beq_refl, Bool.and_self]
theorem Xd {k : IntKind} {a : Int} : D.same (.int k a) (.int k a) = true := by simp only [D.same, decide_true, Bool.and_self]
theorem Xn {a : List Nat} : D.same (.str a) (.str a) = true := by simp only [D.same, beqL_self]
theorem sames_app {a b c d : List D} (h1 : YQ a c = true) (h2 : YQ b d = true) : YQ (a ++ b) (c ++ d) = true := by
  induction a generalizing c with
  | nil => cases c with
    | nil => exact h2
    | cons y c => simp [YQ] at h1
  | cons x a ih => cases c with
    | nil => simp [YQ] at h1
    | cons y c =>
      simp only [List.cons_append, Yw, Bool.and_eq_true] at h1 ⊢
      exact ⟨h1.1, ih h1.2⟩
theorem rows_same {α : Type} {F : α → List D → Prop} (hF : ∀ x c, F x c → YQ c c = true) : ∀ {cs : List (List D)} {xs : List α}, Rows F xs cs → YQ cs.flatten cs.flatten = true
  | [], _, _ => rfl
  | c :: r, [], h => by have := h.1; simp at this
  | c :: r, x :: xs, h => by
    have hc := h.2 0 x c rfl rfl
    have hr : Rows F xs r := ⟨by have := h.1; simpa using this, fun i y d h1 h2 => h.2 (i + 1) y d (by simpa using h1) (by simpa using h2)⟩
    simp only [List.flatten_cons]
    exact sames_app (hF x c hc) (rows_same hF hr)
theorem slR_same {α : Type} {F : α → List D → Prop} (hF : ∀ x c, F x c → YQ c c = true) {z : Nat} {d : D} {xs : List α} (hr : SlR F z d xs) : D.same d d = true := by
  obtain ⟨cs, r, _, ⟨rfl, rfl⟩ | ⟨id, rfl, hne⟩⟩ := hr
  · rfl
  · simp only [D.same, Nat.beq_refl, rows_same hF r, Bool.and_self]
theorem XF {α : Type} {F : α → List D → Prop} {z : Nat} {d : D} {xs : List α} (hr : SlR F z d xs) : d.one = true := by
  obtain ⟨cs, r, _, ⟨rfl, rfl⟩ | ⟨id, rfl, hne⟩⟩ := hr <;> rfl
def IntR (n : Nat) (c : List D) : Prop := c = [.int .i64 (.ofNat n)]
theorem intR_mk {n : Nat} : IntR n [.int .i64 (.ofNat n)] := rfl
theorem int_same {d : D} {xs : List Nat} (hr : SlR IntR 1 d xs) : D.same d d = true := slR_same (fun x c h => by unfold IntR at h; subst h; simp only [Yw, Xd, YN, Bool.and_self]) hr
theorem YU {id x : Nat} : SlR IntR 1 (.sl id 1 [.int .i64 (.ofNat x)]) [x] := ⟨[[.int .i64 (.ofNat x)]], ⟨rfl, fun i y c h1 h2 => by
  cases i with
  | zero => simp at h1 h2; subst h1; subst h2; rfl
  | succ i => simp at h1⟩, by simp, .inr ⟨id, rfl, by simp⟩⟩
theorem vL_app {α : Type} {F : α → List D → Prop} {z e bytes m : Nat} {d : D} {xs : List α} {x : α} {c : List D} (hr : SlR F z d xs) (ht : Tp h e d xs.length) (hx : F x c) (hz : c.length = z) (z0 : 0 < z) (ho : X5 c = true) (hs : xs.length ≤ 1000000) (hb : bytes ≤ 1000)
    (hq : ∀ id cs h', SlR F z (.sl id (xs.length + 1) cs) (xs ++ [x]) → Tp h' e (.sl id (xs.length + 1) cs) (xs.length + 1) → h.next ≤ h'.next → Bnd (.sl id (xs.length + 1) cs) h'.next → (∀ l : Nat, l < h.next → ZQ d l → Zg h'.mem l = Zg h.mem l) → ZW (.sl id (xs.length + 1) cs) d h.next → vL E T (.ok (.sl id (xs.length + 1) cs) h') i inc h0 p kd recs t Q R) : vL E T (oApp e z bytes d (.sl m 1 c) h) i inc h0 p kd recs t Q R := by
  obtain ⟨id, cs, h', e1, a1, a2, a3, a5, a6⟩ := hr.app (m := m) ht hx hz z0 ho hs hb
  rw [e1]; exact hq id cs h' a1 a2 a3 a2.bnd a5 a6
theorem vO_app {α : Type} {F : α → List D → Prop} {z e bytes m : Nat} {d : D} {xs : List α} {x : α} {c : List D} (hr : SlR F z d xs) (ht : Tp h e d xs.length) (hx : F x c) (hz : c.length = z) (z0 : 0 < z) (ho : X5 c = true) (hs : xs.length ≤ 1000000) (hb : bytes ≤ 1000)
    (hq : ∀ id cs h', SlR F z (.sl id (xs.length + 1) cs) (xs ++ [x]) → Tp h' e (.sl id (xs.length + 1) cs) (xs.length + 1) → h.next ≤ h'.next → Bnd (.sl id (xs.length + 1) cs) h'.next → (∀ l : Nat, l < h.next → ZQ d l → Zg h'.mem l = Zg h.mem l) → ZW (.sl id (xs.length + 1) cs) d h.next → VR E T k (p (.sl id (xs.length + 1) cs) t) h' Q R) : vO E T (oApp e z bytes d (.sl m 1 c) h) p k t Q R := by
  obtain ⟨id, cs, h', e1, a1, a2, a3, a5, a6⟩ := hr.app (m := m) ht hx hz z0 ho hs hb
  rw [e1]; exact hq id cs h' a1 a2 a3 a2.bnd a5 a6
end
end Go.Abs
namespace Go.Abs
section
variable {E : Env} {T : Nat → FFn} {p : D → Tr D → Tr D} {k : FR} {kd : FD} {recs : List Rec} {t : Tr D} {h h0 : H} {Q : Aft} {R : Pan} {i : Nat} {inc : List Nat}
theorem vr_s2b {e : TypeId} {g : Tr D → D} : VR E T (fo (u1 (r_s2b e) g) p k) t h Q R ↔ vO E T (oS2b (g t) h) p k t Q R := by
  rw [show oS2b (g t) h = (u1 (r_s2b e) g) E Yx t h by cases hg : g t <;> simp only [oS2b, u1, r_s2b, AAct.eval, hg]]
  exact YP fun _ => rfl
theorem oS2b_str {l : List Nat} : oS2b (.str l) h = .ok (.sl 0 l.length (Xz l)) h := rfl
theorem drop_at {s : List Nat} {n : Nat} (hn : n < s.length) : s.drop n = s.getD n 0 :: s.drop (n + 1) := by
  rw [List.drop_eq_getElem_cons hn]
  simp [List.getD_eq_getElem?_getD, hn]
theorem oIxs_by {id n j : Nat} {kk : IntKind} {s : List Nat} (hj : j < s.length) (hn : s.length = n) : oIxs 1 (.sl id n (Xz s)) (.int kk (.ofNat j)) h = .ok (.ep (.int .u8 (.ofNat (s.getD j 0)) :: Xz (s.drop (j + 1)))) h := by
  refine oIxs_sl (by omega) ?_
  rw [Nat.mul_one, Xz, ← List.map_drop, drop_at hj]
  rfl
theorem oIdxs_s {s : List Nat} {kk : IntKind} {n : Nat} (hb : n < s.length) : oIdxs (.str s) (.int kk (.ofNat n)) h = .ok (.int .u8 (.ofNat (s.getD n 0))) h := oIdxs_at (drop_at hb)
theorem oSl_lo {s : List Nat} {n : Nat} {kk : IntKind} (hn : n ≤ s.length) : oSlstr (some (.int kk (.ofNat n))) none (.str s) h = .ok (.str (s.drop n)) h := by
  have e : Nat.ble n s.length = true := by rw [Nat.ble_eq]; exact hn
  simp only [oSlstr, Xh, hiD, loD, e, cond_true]
  congr 2
  exact List.take_of_length_le (by simp)
theorem oSl_hi {s : List Nat} {n : Nat} {kk : IntKind} (hn : n ≤ s.length) : oSlstr none (some (.int kk (.ofNat n))) (.str s) h = .ok (.str (s.take n)) h := oSlstr_hi hn
theorem oSl_lh {s : List Nat} {n m : Nat} {kk kj : IntKind} (hn : n ≤ m) (hm : m ≤ s.length) : oSlstr (some (.int kk (.ofNat n))) (some (.int kj (.ofNat m))) (.str s) h = .ok (.str ((s.drop n).take (m - n))) h := by
  have e : Nat.ble n m = true := by rw [Nat.ble_eq]; exact hn
  have e2 : Nat.ble m s.length = true := by rw [Nat.ble_eq]; exact hm
  simp only [oSlstr, Xh, hiD, loD, e, e2, cond_true]
theorem vd_slstr {g : Tr D → D} {lo hi : Option (Tr D → D)} : VD E T (fdo (Xy g lo hi) p kd) recs t h Q R ↔ vD E T (oSlstr (lo.map (· t)) (hi.map (· t)) (g t) h) p kd recs t Q R := by
  rw [← fslstr_o (E := E) Yx]
  exact vd_fo fun c => by rw [fslstr_o, fslstr_o]
end
end Go.Abs
namespace Go.Abs
section
variable {t : Tr D} {h : H}
def oMid (o : Option (List D)) (d e : D) (h : H) : O D :=
  match o with
  | some cs => .ok (.tup [d, .agg cs, e]) h
  | none => .fail "results"
theorem oMid_some {cs : List D} {d e : D} : oMid (some cs) d e h = .ok (.tup [d, .agg cs, e]) h := rfl
theorem cfin_mid {n s m l : Nat} {c : CC} : YR ⟨[.t l, .cN n s, .t m], c⟩ (act t) h = oMid (Za h (Gt n t) s) (Gt l t) (Gt m t) h := by
  simp only [YR, X2, Gt, geq]
  cases Za h ((act t).eval (.t n)) s <;> rfl
end
end Go.Abs
