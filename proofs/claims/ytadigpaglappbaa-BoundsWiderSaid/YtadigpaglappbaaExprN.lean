/- The plain answers of expressions: may one be reckoned, what it comes to, and its range; and the laws between them. -/
import Derived.Test.YtadigpaglappbaaBoundsL
set_option linter.unusedVariables false
namespace Go.Proofs.Ytadigpaglappbaa.ExprN
open Go.Proofs.Ytadigpaglappbaa.Word Go.Proofs.Ytadigpaglappbaa.BoundsN Go.Proofs.Ytadigpaglappbaa.BoundsL

/-- An expression. -/
structure X where
  kind : Int
  op : ByteArray
  n : Int
  name : ByteArray
  kids : List Int
deriving Inhabited

def want (k : Int) : Int × Bool := if k = 0 then (0, true) else if k = 1 then (0, true) else if k = 2 then (1, true) else if k = 3 then (2, true) else (0, false)

/-- May it be reckoned? -/
def good (es : List X) (k : Nat) : Bool :=
  match es[k]? with
  | none => false
  | some x => (want x.kind).2 && ((want x.kind).1 == 0 || (x.kids.length : Int) == (want x.kind).1) &&
      (x.kids.take (want x.kind).1.toNat).all fun c => if h : 0 ≤ c ∧ c.toNat < k then good es c.toNat else false
termination_by k
decreasing_by exact h.2

/-- What it comes to. -/
def val (es : List X) (env : ByteArray → Option Int) (k : Nat) : Int × Int :=
  match es[k]? with
  | none => (0, 0)
  | some x =>
    let kid := fun (i : Nat) => if h : (x.kids.getD i 0).toNat < k then val es env (x.kids.getD i 0).toNat else (0, 0)
    if x.kind = 1 then (match env x.name with | none => (0, 11) | some n => (n, 0))
    else if x.kind = 2 then (if (kid 0).2 = 0 then (truth ((kid 0).1 == 0), 0) else kid 0)
    else if x.kind = 3 then (if (kid 0).2 = 0 then (if (kid 1).2 = 0 then op x.op.toList (kid 0).1 (kid 1).1 else kid 1) else kid 0)
    else (x.n, 0)
termination_by k
decreasing_by all_goals assumption

def rname (o : Option R) : R × Bool := match o with | none => (⟨0, 0⟩, false) | some r => (r, decide (r.lo ≤ r.hi))
def rnot (a : R × Bool) : R × Bool := if a.2 then (if 0 < a.1.lo then (⟨0, 0⟩, true) else if a.1.hi = 0 then (⟨1, 1⟩, true) else (⟨0, mask 1⟩, true)) else a

/-- Its range. -/
def rng (es : List X) (env : ByteArray → Option R) (k : Nat) : R × Bool :=
  match es[k]? with
  | none => (⟨0, 0⟩, false)
  | some x =>
    let kid := fun (i : Nat) => if h : (x.kids.getD i 0).toNat < k then rng es env (x.kids.getD i 0).toNat else (⟨0, 0⟩, false)
    if x.kind = 1 then rname (env x.name)
    else if x.kind = 2 then rnot (kid 0)
    else if x.kind = 3 then (if (kid 0).2 && (kid 1).2 then bop x.op.toList (kid 0).1 (kid 1).1 else (⟨0, 0⟩, false))
    else (⟨x.n, x.n⟩, true)
termination_by k
decreasing_by all_goals assumption

/-- The numbers that the names have lie in the ranges that they have. -/
def EnvIn (env : ByteArray → Option Int) (renv : ByteArray → Option R) : Prop :=
  ∀ s, match env s, renv s with
    | none, none => True
    | some n, some r => In n r ∧ UR r
    | _, _ => False
/-- .. and these are points. -/
def EnvPt (env : ByteArray → Option Int) (renv : ByteArray → Option R) : Prop := ∀ s, renv s = (env s).map fun n => ⟨n, n⟩

theorem mask1 : mask 1 = 1 := by decide
theorem not_in {a : R × Bool} {n : Int} (h : a.2 = true) (hn : In n a.1) (ha : UR a.1) : (rnot a).2 = true ∧ In (truth (n == 0)) (rnot a).1 := by
  unfold rnot
  rw [if_pos h]
  have h0 := ha.1.lo
  have h1 := hn.1
  have h2 := hn.2
  by_cases c : 0 < a.1.lo
  · rw [if_pos c]
    have : (n == 0) = false := beq_eq_false_iff_ne.2 (by omega)
    rw [this]
    exact ⟨rfl, by decide, by decide⟩
  · rw [if_neg c]
    by_cases d : a.1.hi = 0
    · rw [if_pos d]
      have : (n == 0) = true := beq_iff_eq.2 (by omega)
      rw [this]
      exact ⟨rfl, by decide, by decide⟩
    · rw [if_neg d, mask1]
      refine ⟨rfl, ?_⟩
      cases (n == 0) <;> exact ⟨by decide, by decide⟩
theorem U0 : U 0 := ⟨by decide, by decide⟩
theorem U1 : U 1 := ⟨by decide, by decide⟩
theorem UR_zero : UR ⟨0, 0⟩ := ⟨U0, U0⟩
theorem not_UR {a : R × Bool} (ha : UR a.1) : UR (rnot a).1 := by
  unfold rnot
  split
  · split
    · exact UR_zero
    · split
      · exact ⟨⟨by decide, by decide⟩, ⟨by decide, by decide⟩⟩
      · rw [mask1]; exact ⟨⟨by decide, by decide⟩, ⟨by decide, by decide⟩⟩
  · exact ha
theorem orTop_U {p : Int × Int} (h : U p.1) : U (orTop p) := by
  unfold orTop
  split
  · exact h
  · exact ⟨by decide, Int.le_refl _⟩
theorem rising_UR {f : Int → Int → Int × Int} (hU : ∀ x y, U x → U y → U (f x y).1) {a b : R} (ha : UR a) (hb : UR b) : UR (rising f a b).1 := by
  unfold rising
  split
  · exact ⟨hU _ _ ha.1 hb.1, orTop_U (hU _ _ ha.2 hb.2)⟩
  · exact UR_zero
theorem U_of_le {x y : Int} (h0 : 0 ≤ x) (h : x ≤ y) (hy : U y) : U x := ⟨h0, Int.le_trans h hy.2⟩
theorem wide_UR (s : List UInt8) {a b : R} (ha : UR a) (hb : UR b) : UR (wide s a b).1 := by
  have l1 := ha.1.lo; have l2 := ha.2.lo; have l3 := hb.1.lo; have l4 := hb.2.lo
  have l5 := ha.1.hi; have l6 := ha.2.hi; have l7 := hb.1.hi; have l8 := hb.2.hi
  unfold wide
  split; exact rising_UR (fun x y hx hy => add_U hx hy) ha hb
  split
  · unfold minus
    split
    · exact UR_zero
    · exact ⟨⟨by show 0 ≤ a.lo - min a.lo b.hi; omega, by show a.lo - min a.lo b.hi ≤ top; unfold top; omega⟩, ⟨by show 0 ≤ a.hi - b.lo; omega, by show a.hi - b.lo ≤ top; unfold top; omega⟩⟩
  split; exact rising_UR (fun x y hx hy => mul_U hx hy) ha hb
  split
  · unfold over
    split
    · exact UR_zero
    · have h1 : 0 ≤ max b.lo 1 := by omega
      exact ⟨U_of_le (Int.ediv_nonneg l1 l4) (Int.ediv_le_self _ l1) ha.1, U_of_le (Int.ediv_nonneg l2 h1) (Int.ediv_le_self _ l2) ha.2⟩
  split
  · unfold over
    split
    · exact UR_zero
    · exact ⟨U0, ⟨by show 0 ≤ min a.hi (b.hi - 1); omega, by show min a.hi (b.hi - 1) ≤ top; unfold top; omega⟩⟩
  split; exact rising_UR (fun x y hx hy => shl_U hx) ha hb
  split
  · unfold down
    split
    · exact UR_zero
    · exact ⟨U_of_le (div_pow_le _ _ l1).1 (div_pow_le _ _ l1).2 ha.1, U_of_le (div_pow_le _ _ l2).1 (div_pow_le _ _ l2).2 ha.2⟩
  split
  · exact ⟨U0, ⟨by show 0 ≤ min a.hi b.hi; omega, by show min a.hi b.hi ≤ top; unfold top; omega⟩⟩
  split
  · exact ⟨⟨by show 0 ≤ max a.lo b.lo; omega, by show max a.lo b.lo ≤ top; unfold top; omega⟩, mask_U _⟩
  exact ⟨U0, U1⟩
theorem bop_UR (s : List UInt8) {a b : R} (ha : UR a) (hb : UR b) : UR (bop s a b).1 := by
  unfold bop
  split
  · split
    · split
      · exact ⟨op_U s ha.1 hb.1, op_U s ha.1 hb.1⟩
      · exact UR_zero
    · split
      · exact wide_UR s ha hb
      · exact UR_zero
  · exact UR_zero
/-- An operator that has a range for two good ranges has a number for two numbers in them. -/
theorem wide_some (s : List UInt8) {a b : R} (ha : UR a) (hb : UR b) (ga : a.lo ≤ a.hi) (gb : b.lo ≤ b.hi) (h : (wide s a b).2 = true) : ∃ p q, In p a ∧ In q b ∧ (op s p q).2 = 0 := by
  have i1 : In a.lo a := ⟨Int.le_refl _, ga⟩
  have i2 : In a.hi a := ⟨ga, Int.le_refl _⟩
  have i3 : In b.lo b := ⟨Int.le_refl _, gb⟩
  have i4 : In b.hi b := ⟨gb, Int.le_refl _⟩
  have hr : ∀ f : Int → Int → Int × Int, (rising f a b).2 = true → (f a.lo b.lo).2 = 0 := by
    intro f h
    unfold rising at h
    split at h
    · assumption
    · cases h
  unfold wide at h
  unfold op
  by_cases c1 : (s == [43]) = true
  · simp only [c1, if_true] at h ⊢; exact ⟨_, _, i1, i3, hr _ h⟩
  by_cases c2 : (s == [45]) = true
  · simp only [c1, c2, if_true, Bool.false_eq_true, if_false] at h ⊢
    refine ⟨_, _, i2, i3, ?_⟩
    unfold minus at h
    split at h
    · cases h
    · unfold sub; rw [decide_eq_true (by omega)]; rfl
  by_cases c3 : (s == [42]) = true
  · simp only [c1, c2, c3, if_true, Bool.false_eq_true, if_false] at h ⊢; exact ⟨_, _, i1, i3, hr _ h⟩
  by_cases c4 : (s == [47]) = true
  · simp only [c1, c2, c3, c4, if_true, Bool.false_eq_true, if_false] at h ⊢
    refine ⟨_, _, i1, i4, ?_⟩
    unfold over at h
    split at h
    · cases h
    · unfold div; rw [if_neg (by assumption)]
  by_cases c5 : (s == [37]) = true
  · simp only [c1, c2, c3, c4, c5, if_true, Bool.false_eq_true, if_false] at h ⊢
    refine ⟨_, _, i1, i4, ?_⟩
    unfold over at h
    split at h
    · cases h
    · unfold mod; rw [if_neg (by assumption)]
  by_cases c6 : (s == [60, 60]) = true
  · simp only [c1, c2, c3, c4, c5, c6, if_true, Bool.false_eq_true, if_false] at h ⊢; exact ⟨_, _, i1, i3, hr _ h⟩
  by_cases c7 : (s == [62, 62]) = true
  · simp only [c1, c2, c3, c4, c5, c6, c7, if_true, Bool.false_eq_true, if_false] at h ⊢
    refine ⟨_, _, i1, i3, ?_⟩
    unfold down at h
    split at h
    · cases h
    · unfold shr; rw [decide_eq_true (by omega)]; rfl
  by_cases c8 : (s == [38]) = true
  · simp only [c1, c2, c3, c4, c5, c6, c7, c8, if_true, Bool.false_eq_true, if_false] at h ⊢; exact ⟨_, _, i1, i3, trivial⟩
  by_cases c9 : (s == [124]) = true
  · simp only [c1, c2, c3, c4, c5, c6, c7, c8, c9, if_true, Bool.false_eq_true, if_false] at h ⊢; exact ⟨_, _, i1, i3, trivial⟩
  simp only [c1, c2, c3, c4, c5, c6, c7, c8, c9, op] at h ⊢
  refine ⟨_, _, i1, i3, ?_⟩
  by_cases c : (cmp s 0 1).2 = true
  · have c' := c
    rw [cmp_ok s 0 1 a.lo b.lo] at c'
    simp [c']
  · simp [c] at h
theorem bop_le (s : List UInt8) {a b : R} (ha : UR a) (hb : UR b) (h : (bop s a b).2 = true) : (bop s a b).1.lo ≤ (bop s a b).1.hi := by
  unfold bop at h ⊢
  by_cases g : a.lo ≤ a.hi ∧ b.lo ≤ b.hi
  · simp only [if_pos g] at h ⊢
    by_cases c : a.lo = a.hi ∧ b.lo = b.hi
    · simp only [if_pos c] at h ⊢
      by_cases d : (op s a.lo b.lo).2 = 0
      · simp only [if_pos d]; exact Int.le_refl _
      · simp only [if_neg d] at h; cases h
    · simp only [if_neg c] at h ⊢
      by_cases d : (wide s a b).2 = true
      · simp only [if_pos d]
        obtain ⟨p, q, hp, hq, ho⟩ := wide_some s ha hb g.1 g.2 d
        have up : U p := ⟨Int.le_trans ha.1.1 hp.1, Int.le_trans hp.2 ha.2.2⟩
        have uq : U q := ⟨Int.le_trans hb.1.1 hq.1, Int.le_trans hq.2 hb.2.2⟩
        have := (wide_in s ha hb hp hq up uq ho).2
        exact Int.le_trans this.1 this.2
      · simp only [if_neg d] at h; cases h
  · simp only [if_neg g] at h; cases h

/-! ### one expression -/
theorem good_lt {es : List X} {k : Nat} (h : good es k = true) : ∃ x, es[k]? = some x := by
  rw [good] at h
  cases hx : es[k]? with
  | none => rw [hx] at h; cases h
  | some x => exact ⟨x, rfl⟩
theorem good_kids {es : List X} {k : Nat} {x : X} (h : good es k = true) (hx : es[k]? = some x) :
    (want x.kind).2 = true ∧ ((want x.kind).1 = 0 ∨ (x.kids.length : Int) = (want x.kind).1) ∧ ∀ c ∈ x.kids.take (want x.kind).1.toNat, 0 ≤ c ∧ c.toNat < k ∧ good es c.toNat = true := by
  rw [good, hx] at h
  simp only [Bool.and_eq_true, Bool.or_eq_true, beq_iff_eq, List.all_eq_true] at h
  obtain ⟨⟨h1, h2⟩, h3⟩ := h
  refine ⟨h1, h2, fun c hc => ?_⟩
  have := h3 c hc
  split at this
  · rename_i hh; exact ⟨hh.1, hh.2, this⟩
  · cases this
theorem good_kind {es : List X} {k : Nat} {x : X} (h : good es k = true) (hx : es[k]? = some x) : x.kind = 0 ∨ x.kind = 1 ∨ x.kind = 2 ∨ x.kind = 3 := by
  obtain ⟨h1, _⟩ := good_kids h hx
  unfold want at h1
  by_cases c0 : x.kind = 0
  · exact .inl c0
  by_cases c1 : x.kind = 1
  · exact .inr (.inl c1)
  by_cases c2 : x.kind = 2
  · exact .inr (.inr (.inl c2))
  by_cases c3 : x.kind = 3
  · exact .inr (.inr (.inr c3))
  simp [c0, c1, c2, c3] at h1
theorem good_one {es : List X} {k : Nat} {x : X} (h : good es k = true) (hx : es[k]? = some x) (hk : x.kind = 2) : ∃ c, x.kids = [c] ∧ 0 ≤ c ∧ c.toNat < k ∧ good es c.toNat = true := by
  obtain ⟨_, h2, h3⟩ := good_kids h hx
  have e : want x.kind = (1, true) := by rw [hk]; rfl
  rw [e] at h2 h3
  have hl : x.kids.length = 1 := by rcases h2 with h2 | h2 <;> simp only at h2 <;> omega
  obtain ⟨c, hc⟩ := List.length_eq_one_iff.1 hl
  rw [hc] at h3
  exact ⟨c, hc, h3 c (by simp)⟩
theorem good_two {es : List X} {k : Nat} {x : X} (h : good es k = true) (hx : es[k]? = some x) (hk : x.kind = 3) : ∃ c d, x.kids = [c, d] ∧ (0 ≤ c ∧ c.toNat < k ∧ good es c.toNat = true) ∧ 0 ≤ d ∧ d.toNat < k ∧ good es d.toNat = true := by
  obtain ⟨_, h2, h3⟩ := good_kids h hx
  have e : want x.kind = (2, true) := by rw [hk]; rfl
  rw [e] at h2 h3
  have hl : x.kids.length = 2 := by rcases h2 with h2 | h2 <;> simp only at h2 <;> omega
  obtain ⟨c, d, hc⟩ : ∃ c d, x.kids = [c, d] := by
    match x.kids, hl with
    | [c, d], _ => exact ⟨c, d, rfl⟩
  rw [hc] at h3
  exact ⟨c, d, hc, h3 c (by simp), h3 d (by simp)⟩

theorem val_num {es : List X} {env : ByteArray → Option Int} {k : Nat} {x : X} (hx : es[k]? = some x) (h : x.kind = 0) : val es env k = (x.n, 0) := by
  rw [val, hx]; simp [h]
theorem val_name {es : List X} {env : ByteArray → Option Int} {k : Nat} {x : X} (hx : es[k]? = some x) (h : x.kind = 1) : val es env k = match env x.name with | none => (0, 11) | some n => (n, 0) := by
  rw [val, hx]; simp [h]
theorem val_not {es : List X} {env : ByteArray → Option Int} {k : Nat} {x : X} {c : Int} (hx : es[k]? = some x) (h : x.kind = 2) (hc : x.kids = [c]) (hl : c.toNat < k) :
    val es env k = if (val es env c.toNat).2 = 0 then (truth ((val es env c.toNat).1 == 0), 0) else val es env c.toNat := by
  rw [val, hx]; simp [h, hc, hl]
theorem val_bin {es : List X} {env : ByteArray → Option Int} {k : Nat} {x : X} {c d : Int} (hx : es[k]? = some x) (h : x.kind = 3) (hc : x.kids = [c, d]) (hl : c.toNat < k) (hr : d.toNat < k) :
    val es env k = if (val es env c.toNat).2 = 0 then (if (val es env d.toNat).2 = 0 then op x.op.toList (val es env c.toNat).1 (val es env d.toNat).1 else val es env d.toNat) else val es env c.toNat := by
  rw [val, hx]; simp [h, hc, hl, hr]
theorem rng_num {es : List X} {env : ByteArray → Option R} {k : Nat} {x : X} (hx : es[k]? = some x) (h : x.kind = 0) : rng es env k = (⟨x.n, x.n⟩, true) := by
  rw [rng, hx]; simp [h]
theorem rng_name {es : List X} {env : ByteArray → Option R} {k : Nat} {x : X} (hx : es[k]? = some x) (h : x.kind = 1) : rng es env k = rname (env x.name) := by
  rw [rng, hx]; simp [h]
theorem rng_not {es : List X} {env : ByteArray → Option R} {k : Nat} {x : X} {c : Int} (hx : es[k]? = some x) (h : x.kind = 2) (hc : x.kids = [c]) (hl : c.toNat < k) :
    rng es env k = rnot (rng es env c.toNat) := by
  rw [rng, hx]; simp [h, hc, hl]
theorem rng_bin {es : List X} {env : ByteArray → Option R} {k : Nat} {x : X} {c d : Int} (hx : es[k]? = some x) (h : x.kind = 3) (hc : x.kids = [c, d]) (hl : c.toNat < k) (hr : d.toNat < k) :
    rng es env k = if (rng es env c.toNat).2 && (rng es env d.toNat).2 then bop x.op.toList (rng es env c.toNat).1 (rng es env d.toNat).1 else (⟨0, 0⟩, false) := by
  rw [rng, hx]; simp [h, hc, hl, hr]

/-! ### the laws -/
variable {es : List X} {env : ByteArray → Option Int} {renv : ByteArray → Option R}
theorem val_U (hes : ∀ x ∈ es, U x.n) (hen : ∀ s n, env s = some n → U n) : ∀ k, good es k = true → U (val es env k).1 := by
  intro k
  induction k using Nat.strongRecOn with
  | ind k ih =>
    intro hg
    obtain ⟨x, hx⟩ := good_lt hg
    rcases good_kind hg hx with h | h | h | h
    · rw [val_num hx h]; exact hes x (List.mem_of_getElem? hx)
    · rw [val_name hx h]
      cases he : env x.name with
      | none => exact U0
      | some n => exact hen _ _ he
    · obtain ⟨c, hc, _, hl, hgc⟩ := good_one hg hx h
      rw [val_not hx h hc hl]
      split
      · exact truth_U _
      · exact ih _ hl hgc
    · obtain ⟨c, d, hc, ⟨_, hl, hgc⟩, _, hr, hgd⟩ := good_two hg hx h
      rw [val_bin hx h hc hl hr]
      split
      · split
        · exact op_U _ (ih _ hl hgc) (ih _ hr hgd)
        · exact ih _ hr hgd
      · exact ih _ hl hgc
theorem rng_UR (hes : ∀ x ∈ es, U x.n) (hen : ∀ s r, renv s = some r → UR r) : ∀ k, good es k = true → UR (rng es renv k).1 := by
  intro k
  induction k using Nat.strongRecOn with
  | ind k ih =>
    intro hg
    obtain ⟨x, hx⟩ := good_lt hg
    rcases good_kind hg hx with h | h | h | h
    · rw [rng_num hx h]; exact ⟨hes x (List.mem_of_getElem? hx), hes x (List.mem_of_getElem? hx)⟩
    · rw [rng_name hx h]
      cases he : renv x.name with
      | none => exact UR_zero
      | some n => exact hen _ _ he
    · obtain ⟨c, hc, _, hl, hgc⟩ := good_one hg hx h
      rw [rng_not hx h hc hl]
      exact not_UR (ih _ hl hgc)
    · obtain ⟨c, d, hc, ⟨_, hl, hgc⟩, _, hr, hgd⟩ := good_two hg hx h
      rw [rng_bin hx h hc hl hr]
      split
      · exact bop_UR _ (ih _ hl hgc) (ih _ hr hgd)
      · exact UR_zero
theorem not_le {a : R × Bool} (ha : a.2 = true → a.1.lo ≤ a.1.hi) (h : (rnot a).2 = true) : (rnot a).1.lo ≤ (rnot a).1.hi := by
  unfold rnot at h ⊢
  split
  · split
    · decide
    · split <;> decide
  · rename_i hh
    rw [if_neg hh] at h
    exact absurd h hh
theorem rng_le (hes : ∀ x ∈ es, U x.n) (hen : ∀ s r, renv s = some r → UR r) : ∀ k, good es k = true → (rng es renv k).2 = true → (rng es renv k).1.lo ≤ (rng es renv k).1.hi := by
  intro k
  induction k using Nat.strongRecOn with
  | ind k ih =>
    intro hg ho
    obtain ⟨x, hx⟩ := good_lt hg
    rcases good_kind hg hx with h | h | h | h
    · rw [rng_num hx h]; exact Int.le_refl _
    · rw [rng_name hx h] at ho ⊢
      cases he : renv x.name with
      | none => rw [he] at ho; cases ho
      | some n => rw [he] at ho; exact of_decide_eq_true ho
    · obtain ⟨c, hc, _, hl, hgc⟩ := good_one hg hx h
      rw [rng_not hx h hc hl] at ho ⊢
      exact not_le (ih _ hl hgc) ho
    · obtain ⟨c, d, hc, ⟨_, hl, hgc⟩, _, hr, hgd⟩ := good_two hg hx h
      rw [rng_bin hx h hc hl hr] at ho ⊢
      split
      · rename_i hh
        rw [if_pos hh] at ho
        exact bop_le _ (rng_UR hes hen _ hgc) (rng_UR hes hen _ hgd) ho
      · exact Int.le_refl _

/-- P11.4: whatever numbers within good ranges the names have, an expression that comes to a number comes to one in its range. -/
theorem holds (hes : ∀ x ∈ es, U x.n) (hen : EnvIn env renv) : ∀ k, good es k = true → (val es env k).2 = 0 → (rng es renv k).2 = true ∧ In (val es env k).1 (rng es renv k).1 := by
  have hren : ∀ s r, renv s = some r → UR r := by
    intro s r hr
    have := hen s
    rw [hr] at this
    cases he : env s with
    | none => rw [he] at this; exact this.elim
    | some n => rw [he] at this; exact this.2
  intro k
  induction k using Nat.strongRecOn with
  | ind k ih =>
    intro hg ho
    obtain ⟨x, hx⟩ := good_lt hg
    rcases good_kind hg hx with h | h | h | h
    · rw [rng_num hx h, val_num hx h]; exact ⟨rfl, Int.le_refl _, Int.le_refl _⟩
    · rw [val_name hx h] at ho ⊢
      rw [rng_name hx h]
      have := hen x.name
      cases he : env x.name with
      | none => rw [he] at ho; cases ho
      | some n =>
        cases hr : renv x.name with
        | none => rw [he, hr] at this; exact this.elim
        | some r =>
          rw [he, hr] at this
          exact ⟨decide_eq_true (Int.le_trans this.1.1 this.1.2), this.1⟩
    · obtain ⟨c, hc, _, hl, hgc⟩ := good_one hg hx h
      rw [val_not hx h hc hl] at ho ⊢
      rw [rng_not hx h hc hl]
      split at ho
      · rename_i h0
        rw [if_pos h0]
        obtain ⟨i1, i2⟩ := ih _ hl hgc h0
        exact not_in i1 i2 (rng_UR hes hren _ hgc)
      · rename_i h0; exact absurd ho h0
    · obtain ⟨c, d, hc, ⟨_, hl, hgc⟩, _, hr, hgd⟩ := good_two hg hx h
      rw [val_bin hx h hc hl hr] at ho ⊢
      rw [rng_bin hx h hc hl hr]
      split at ho
      · rename_i h0
        split at ho
        · rename_i h1
          rw [if_pos h0, if_pos h1]
          obtain ⟨i1, i2⟩ := ih _ hl hgc h0
          obtain ⟨j1, j2⟩ := ih _ hr hgd h1
          rw [i1, j1]
          exact bop_in _ (rng_UR hes hren _ hgc) (rng_UR hes hren _ hgd) i2 j2 ho
        · rename_i h1; exact absurd ho h1
      · rename_i h0; exact absurd ho h0

theorem bop_pt (s : List UInt8) (p q : Int) : bop s ⟨p, p⟩ ⟨q, q⟩ = if (op s p q).2 = 0 then (⟨(op s p q).1, (op s p q).1⟩, true) else none2 := by
  unfold bop
  rw [if_pos ⟨Int.le_refl _, Int.le_refl _⟩, if_pos ⟨rfl, rfl⟩]
theorem not_pt {v : Int} (h : 0 ≤ v) : rnot (⟨v, v⟩, true) = (⟨truth (v == 0), truth (v == 0)⟩, true) := by
  unfold rnot
  by_cases c : 0 < v
  · have : (v == 0) = false := beq_eq_false_iff_ne.2 (by omega)
    simp [c, this, truth]
  · have e : v = 0 := by omega
    subst e
    simp [truth]
/-- P11.4: if all ranges are points, an expression has a range just if it comes to a number; then that is its point. -/
theorem points (hes : ∀ x ∈ es, U x.n) (hen : ∀ s n, env s = some n → U n) (hpt : EnvPt env renv) : ∀ k, good es k = true →
    ((val es env k).2 = 0 ∧ rng es renv k = (⟨(val es env k).1, (val es env k).1⟩, true)) ∨ ((val es env k).2 ≠ 0 ∧ (rng es renv k).2 = false) := by
  intro k
  induction k using Nat.strongRecOn with
  | ind k ih =>
    intro hg
    obtain ⟨x, hx⟩ := good_lt hg
    rcases good_kind hg hx with h | h | h | h
    · rw [rng_num hx h, val_num hx h]; exact .inl ⟨rfl, rfl⟩
    · rw [val_name hx h, rng_name hx h, hpt x.name]
      cases he : env x.name with
      | none => exact .inr ⟨by decide, rfl⟩
      | some n => exact .inl ⟨rfl, by simp [rname]⟩
    · obtain ⟨c, hc, _, hl, hgc⟩ := good_one hg hx h
      rw [val_not hx h hc hl, rng_not hx h hc hl]
      rcases ih _ hl hgc with ⟨h0, h1⟩ | ⟨h0, h1⟩
      · rw [if_pos h0, h1, not_pt (val_U hes hen _ hgc).lo]; exact .inl ⟨rfl, rfl⟩
      · rw [if_neg h0]
        refine .inr ⟨h0, ?_⟩
        unfold rnot
        rw [h1]
        simpa using h1
    · obtain ⟨c, d, hc, ⟨_, hl, hgc⟩, _, hr, hgd⟩ := good_two hg hx h
      rw [val_bin hx h hc hl hr, rng_bin hx h hc hl hr]
      rcases ih _ hl hgc with ⟨h0, h1⟩ | ⟨h0, h1⟩
      · rw [if_pos h0]
        rcases ih _ hr hgd with ⟨g0, g1⟩ | ⟨g0, g1⟩
        · rw [if_pos g0, h1, g1]
          simp only [Bool.and_self, if_true]
          rw [bop_pt]
          by_cases o : (op x.op.toList (val es env c.toNat).1 (val es env d.toNat).1).2 = 0
          · rw [if_pos o]; exact .inl ⟨o, rfl⟩
          · rw [if_neg o]; exact .inr ⟨o, rfl⟩
        · rw [if_neg g0, g1]
          exact .inr ⟨g0, by simp⟩
      · rw [if_neg h0, h1]
        exact .inr ⟨h0, by simp⟩
end Go.Proofs.Ytadigpaglappbaa.ExprN
