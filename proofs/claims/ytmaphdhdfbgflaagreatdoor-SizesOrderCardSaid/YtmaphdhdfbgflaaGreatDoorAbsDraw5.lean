/- Regions in open order: whatever the order, they come to what the reckoner says. -/
import Derived.Test.YtmaphdhdfbgflaaGreatDoorAbsDraw4
import Derived.Test.YtmaphdhdfbgflaaGreatDoorAbsCode2
import Derived.Orders
set_option linter.unusedVariables false
namespace Go.Abs

theorem mem?_iff {i : Nat} : ∀ {l : List Nat}, mem? i l = true ↔ i ∈ l
  | [] => by simp [mem?]
  | j :: r => by
    simp only [mem?, Bool.or_eq_true, List.mem_cons]
    rw [mem?_iff]
    refine or_congr ⟨fun h => Nat.eq_of_beq_eq_true h, fun h => by subst h; simp⟩ Iff.rfl
theorem optmps_mem {t : Nat} : ∀ {xs : List Opd}, Opd.t t ∈ xs → t ∈ optmps xs
  | [], h => by simp at h
  | x :: xs, h => by
    simp only [List.mem_cons] at h
    rcases h with rfl | h
    · simp [optmps]
    · cases x with
      | t n => exact List.mem_cons_of_mem _ (optmps_mem h)
      | d v => exact optmps_mem (xs := xs) h
theorem AAct.eval_put_same (a : AAct) (t : Nat) (d : D) : (a.put (some t) d).eval (.t t) = d := by
  simp [AAct.put, AAct.eval, Tr.get_set]
theorem AAct.eval_put_ne (a : AAct) {dst : Option Nat} {t : Nat} (h : dst ≠ some t) (d : D) : (a.put dst d).eval (.t t) = a.eval (.t t) := by
  cases dst with
  | none => rfl
  | some s =>
    have : t ≠ s := fun e => h (by rw [e])
    simp [AAct.put, AAct.eval, Tr.get_set, this]
theorem awanted_congr {a b : AAct} {c : CO} (h : ∀ t ∈ tmpsOf c, a.eval (.t t) = b.eval (.t t)) : awanted a c = awanted b c := by
  unfold awanted
  cases hg : c.guard with
  | none => rfl
  | some p =>
    obtain ⟨t, want⟩ := p
    have ht : t ∈ tmpsOf c := by unfold tmpsOf; rw [hg]; simp
    have h1 := h t ht
    simp only [AAct.eval] at h1
    simp only
    cases ha : a.tmps.get t with
    | none =>
      rw [ha] at h1
      cases hb : b.tmps.get t with
      | none => rfl
      | some v => rw [hb] at h1; simp only at h1; subst h1; rfl
    | some u =>
      rw [ha] at h1
      cases hb : b.tmps.get t with
      | none => rw [hb] at h1; simp only at h1; subst h1; rfl
      | some v => rw [hb] at h1; simp only at h1; subst h1; rfl
theorem cop_ld {P : Program} {glob : Nat → Option (List D)} {o : Oper} {q : COp} {n : Nat} {x : Opd} (hc : cop P glob o = some q) (hq : q = .ld1 x ∨ q = .ldN n x) : ∃ y, copd glob y = some x := by
  unfold cop at hc
  split at hc
  all_goals first
    | (split at hc
       · rename_i h3; cases hc; rcases hq with hq | hq <;> cases hq; exact ⟨_, h3⟩
       · rename_i h3; cases hc; rcases hq with hq | hq <;> cases hq; exact ⟨_, h3⟩
       · cases hc)
    | (exfalso; repeat' (first | (cases hc; done) | (obtain ⟨_, _, hh⟩ := map_some hc; subst hh; rcases hq with hq | hq <;> cases hq; done) | (cases hc; rcases hq with hq | hq <;> cases hq; done) | split at hc | (unfold cond at hc; split at hc)))

section
variable {P : Program} {glob : Nat → Option (List D)} {N : Nat} {E : Env} {call : Call} {ops : Array Oper} {l : List CO} {aT : Nat → AAct} {hT : Nat → H} {rT : Nat → List Rec} {S : Nat → Prop} {mem : Nat → Option AObj} {i : Nat}
variable {top : Nat} {g0 g : G} {w0 w : World} {aS : AAct} {A : Act}

structure WInv (P : Program) (N : Nat) (ops : Array Oper) (l : List CO) (aT : Nat → AAct) (hT : Nat → H) (top : Nat) (g0 : G) (w0 : World) (S : Nat → Prop) (g : G) (mem : Nat → Option AObj) (aS : AAct) (A : Act) (w : World) : Prop where
  m : MInv ops l aT hT S mem
  core : C P g mem w
  arel : ARel g aS A N
  ext : Ext g0 (hT 0) w0 g (hT ops.size) w
  fresh : ∀ k, k < top → (∀ m, ¬ Cov ops hT S k m) → Fresh g k
  tmp : ∀ t m, m ≤ ops.size → (∀ k c, l[k]? = some c → c.dst = some t → (S k ↔ k < m)) → aS.eval (.t t) = (aT m).eval (.t t)
  nod : aS.defers = (aT 0).defers

theorem Run.stepTmp (hR : Run P glob N E call ops l aT hT rT) {j : Nat} {c : CO} (hc : l[j]? = some c) : ∃ d, aT (j + 1) = (aT j).put c.dst d := by
  cases hR.step j c hc with
  | skip _ h => exact ⟨_, h⟩
  | read d _ _ _ _ _ h => exact ⟨_, h⟩
  | loud d _ _ h => exact ⟨_, h⟩
  | quiet d _ _ h => exact ⟨_, h⟩
theorem Run.keepTmp (hR : Run P glob N E call ops l aT hT rT) {t i : Nat} : ∀ {j : Nat}, i ≤ j → j ≤ ops.size → (∀ k c, i ≤ k → k < j → l[k]? = some c → c.dst ≠ some t) → (aT j).eval (.t t) = (aT i).eval (.t t)
  | 0, hij, _, _ => by have : i = 0 := by omega
                       subst this; rfl
  | j + 1, hij, hj, hn => by
    by_cases e : i = j + 1
    · subst e; rfl
    · obtain ⟨o, gd, q, _, h2, _⟩ := hR.at (j := j) (by omega)
      obtain ⟨d, hd⟩ := hR.stepTmp h2
      rw [hd, AAct.eval_put_ne _ (hn j _ (by omega) (by omega) h2), hR.keepTmp (by omega) (by omega) fun k c h3 h4 => hn k c h3 (by omega)]

theorem AAct.put_defers' (a : AAct) (dst : Option Nat) (d : D) : (a.put dst d).defers = a.defers := by
  unfold AAct.put
  split <;> rfl
theorem Run.noDefers (hR : Run P glob N E call ops l aT hT rT) : ∀ {j : Nat}, j ≤ ops.size → (aT j).defers = (aT 0).defers
  | 0, _ => rfl
  | j + 1, hj => by
    obtain ⟨o, gd, q, _, h2, _⟩ := hR.at (j := j) (by omega)
    obtain ⟨d, hd⟩ := hR.stepTmp h2
    rw [hd, ← hR.noDefers (j := j) (by omega)]
    unfold AAct.put
    split <;> rfl
theorem apart_later {x y : CO} (h : apartC x y = true) {t : Nat} (hx : x.dst = some t) : t ∉ tmpsOf y ∧ y.dst ≠ some t := by
  unfold apartC at h
  rw [hx] at h
  simp only [Bool.and_eq_true, Bool.not_eq_true'] at h
  refine ⟨fun hm => ?_, fun he => ?_⟩
  · rw [mem?_iff.2 hm] at h; cases h.1.1
  · rw [he] at h; simp at h
theorem apart_first {x y : CO} (h : apartC x y = true) {t : Nat} (hy : y.dst = some t) : t ∉ tmpsOf x := by
  unfold apartC at h
  rw [hy] at h
  simp only [Bool.and_eq_true, Bool.not_eq_true'] at h
  intro hm
  rw [mem?_iff.2 hm] at h; cases h.2

/-- What an operation looks at is what it was in the text's order. -/
theorem WInv.looks (hR : Run P glob N E call ops l aT hT rT) (hI : WInv P N ops l aT hT top g0 w0 S g mem aS A w) (hi : i < ops.size) (hS : ¬ S i) (hready : ∀ k, k < i → mem? k (incAt ops i) = false → S k) {c : CO} (hc : l[i]? = some c) :
    ∀ t ∈ tmpsOf c, aS.eval (.t t) = (aT i).eval (.t t) := by
  intro t ht
  refine hI.tmp t i (Nat.le_of_lt hi) fun k ck hck hd => ⟨fun hs => ?_, fun hki => ?_⟩
  · rcases Nat.lt_trichotomy k i with h | h | h
    · exact h
    · subst h; exact absurd hs hS
    · exact absurd ht (apart_first (hR.open h (hI.m.lt k hs) hc hck (hI.m.opens hS hs h)).2 hd)
  · cases hm : mem? k (incAt ops i) with
    | false => exact hready k hki hm
    | true => exact absurd ht (apart_later (hR.open hki hi hck hc hm).2 hd).1
theorem WInv.addTmp (hR : Run P glob N E call ops l aT hT rT) (hI : WInv P N ops l aT hT top g0 w0 S g mem aS A w) (hi : i < ops.size) (hS : ¬ S i) {c : CO} (hc : l[i]? = some c) {d : D} (hact : aT (i + 1) = (aT i).put c.dst d) :
    ∀ t m, m ≤ ops.size → (∀ k c, l[k]? = some c → c.dst = some t → (Add S i k ↔ k < m)) → (aS.put c.dst d).eval (.t t) = (aT m).eval (.t t) := by
  intro t m hm hw
  by_cases hd : c.dst = some t
  · rw [hd, AAct.eval_put_same]
    have him : i < m := (hw i c hc hd).1 (.inr rfl)
    rw [hR.keepTmp (i := i + 1) him hm fun k ck h1 h2 hck he => ?_, hact, hd, AAct.eval_put_same]
    have hs : S k := ((hw k ck hck he).2 h2).resolve_right (by omega)
    exact (apart_later (hR.open (i := i) (by omega) (by omega) hc hck (hI.m.opens hS hs (by omega))).2 hd).2 he
  · rw [AAct.eval_put_ne _ hd]
    refine hI.tmp t m hm fun k ck hck he => ?_
    rw [← hw k ck hck he]
    refine ⟨.inl, fun hh => hh.resolve_right fun e => ?_⟩
    subst e; rw [hc] at hck; cases hck; exact hd he

theorem WInv.globs (hI : WInv P N ops l aT hT top g0 w0 S g mem aS A w) (hg : GlobOk g0 glob) : GlobOk g glob := hg.mono hI.ext.le

/-- One more of those that were listed is done. -/
theorem WInv.step (hE : E.P = P) (hcall : CallSim P call glob) (hR : Run P glob N E call ops l aT hT rT) (hr0 : R P top g0 (hT 0) w0) (htop : (hT ops.size).next ≤ top) (hg0 : GlobOk g0 glob) (hI : WInv P N ops l aT hT top g0 w0 S g mem aS A w)
    (hi : i < ops.size) (hS : ¬ S i) (hready : ∀ k, k < i → mem? k (incAt ops i) = false → S k) {next : Act → World → Prop} {Q : Exit → Act → World → Prop}
    (hn : ∀ g' mem' aS' A' w', WInv P N ops l aT hT top g0 w0 (Add S i) g' mem' aS' A' w' → next A' w') : wpOp P ops Q i next A w := by
  obtain ⟨o, gd, q, ho, hc, hcg, hcq, hdst⟩ := hR.at hi
  have hlooks := hI.looks hR hi hS hready hc
  have hD : Dom (hT 0) := hr0.dom
  have hwt : awanted aS (CO.mk o.dst gd q) = awanted (aT i) (CO.mk o.dst gd q) := awanted_congr hlooks
  have hops : ∀ x ∈ opds q, aS.eval x = (aT i).eval x := fun x hx => by
    cases x with
    | d v => rfl
    | t n => exact hlooks n (by unfold tmpsOf; exact List.mem_append_left _ (optmps_mem hx))
  unfold wpOp
  rw [ho]
  simp only
  rw [cguard_wanted rfl (c := q) hcg hI.arel, hwt]
  have hgl := hI.globs hg0
  have h0i := hR.first_le (j := i) (Nat.le_of_lt hi)
  have hin := hR.nx (i := i + 1) (j := ops.size) hi (Nat.le_refl _)
  have hii := hR.nx (i := i) (j := i + 1) (Nat.le_succ _) hi
  cases hw : awanted (aT i) (CO.mk o.dst gd q) with
  | false =>
    rw [if_neg (by simp)]
    obtain ⟨hact, hnx, hm⟩ := hI.m.skip hR hi hready hc hw
    refine hn g mem (aS.put o.dst undefD) (A.put o.dst undef) w ⟨hm, hI.core, hI.arel.put hdst (.undef g), hI.ext, fun k hk hcv => hI.fresh k hk fun m hh => hcv m (hh.mono fun j => .inl), hI.addTmp hR hi hS hc hact, (AAct.put_defers' _ _ _).trans hI.nod⟩
  | true =>
    rw [if_pos rfl]
    have hcov : ∀ k off n, readsOf (aT i) q = some (.ptr k off, n) → ∃ m, Cov ops hT S k m := fun k off n hrd => by
      refine Classical.byContradiction fun hno => ?_
      have hno' : ∀ m, ¬ Cov ops hT S k m := fun m hm => hno ⟨m, hm⟩
      have hptr : ∃ x y, copd glob y = some x ∧ aS.eval x = .ptr k off := by
        cases q <;> simp only [readsOf, Option.some.injEq, Prod.mk.injEq, reduceCtorEq] at hrd
        case ld1 x =>
          obtain ⟨y, hy⟩ := cop_ld (n := 0) hcq (.inl rfl)
          exact ⟨x, y, hy, by rw [hops x (by simp [opds])]; exact hrd.1⟩
        case ldN m x =>
          obtain ⟨y, hy⟩ := cop_ld hcq (.inr rfl)
          exact ⟨x, y, hy, by rw [hops x (by simp [opds])]; exact hrd.1⟩
      obtain ⟨x, y, hy, hxe⟩ := hptr
      have hv := hI.arel.orel hgl y x hy
      rw [hxe] at hv
      generalize A.eval y = v at hv
      cases hv with
      | ptr hb =>
        -- the name is below what the reckoner has made
        have hk : k < top := by
          refine Nat.lt_of_lt_of_le (Nat.lt_of_not_le fun hq => ?_) htop
          have hcs : ∃ cs, readCells (hT i) (.ptr k off) n = some cs := by
            cases hR.step i _ hc with
            | skip hw' => rw [hw] at hw'; cases hw'
            | read d y n' cs _ _ _ hrd' hcs => 
              have : readsOf (aT i) q = some (y, n') := hrd'
              rw [this] at hrd; cases hrd; exact ⟨cs, hcs⟩
            | loud d _ _ _ hrd' => have : readsOf (aT i) q = none := hrd'
                                   rw [this] at hrd; cases hrd
            | quiet d _ _ _ hrd' => have : readsOf (aT i) q = none := hrd'
                                    rw [this] at hrd; cases hrd
          obtain ⟨cs, hcs⟩ := hcs
          have := hR.dom hD (Nat.le_of_lt hi) k (by omega)
          simp only [readCells, this] at hcs
          cases hcs
        rw [(hI.fresh k hk hno').1] at hb; cases hb
    obtain ⟨K, K', d, ha⟩ := hI.m.next hR hD hi hS hready hc hw hcov
    have hrun : den q E call aS K = .ok d K' := by rw [den_congr hops]; exact ha.run
    have hname : ∀ k, (hT i).next ≤ k → k < (hT (i + 1)).next → Fresh g k := fun k h1 h2 => hI.fresh k (by omega) fun m hcv => hR.notin hi hS hcv ⟨h1, h2⟩
    have hrK : R P K'.next g K w := hI.core.toR ha.sub (fun k h1 h2 => hname k (by rw [ha.k1] at h1; exact h1) (by rw [ha.k2] at h2; exact h2)) ha.dom (by rw [ha.k1, ha.k2]; exact hii) (by rw [ha.k1]; exact Nat.lt_of_lt_of_le hr0.pos.1 h0i)
    refine .inl (oper_wp (p := false) hcq hI.arel hgl hrK (Nat.le_refl _) hcall E hE hrun (fun _ v w' g' hY hR' hV => ?_) (fun hh => by cases hh))
    have hX := hI.ext
    -- what the call did not own, the operation does not own
    have hnone : ∀ k, (hT 0).mem.get k = none → (k < (hT 0).next ∨ (hT ops.size).next ≤ k ∨ ¬ Fresh g0 k ∧ k < top) → K.mem.get k = none := fun k h1 h2 => by
      cases hKk : K.mem.get k with
      | none => rfl
      | some ob =>
        have hmk := ha.sub k ob hKk
        refine absurd ?_ (show ¬ False from id)
        have hcv : ∃ m, Cov ops hT S k m := Classical.byContradiction fun hno => by
          rw [hI.m.nocov k fun m hm => hno ⟨m, hm⟩] at hmk; cases hmk
        obtain ⟨m, hcv⟩ := hcv
        obtain ⟨u, hu⟩ := First.ex ops l aT S
        have hule := hu.le
        rcases hcv with ⟨h3, h4⟩ | ⟨j, h3, h4, h5, h6, h7⟩
        · have := hI.m.cov u hu k m (.inl ⟨h3, h4⟩)
          rw [(hR.growth (Nat.zero_le _) (by omega)).old k h4 h1] at this
          rw [this] at hmk; cases hmk
        · have h8 := hR.first_le (j := j) (by omega)
          have h9 := hR.nx (i := j + 1) (j := ops.size) h4 (Nat.le_refl _)
          rcases h2 with h2 | h2 | ⟨h2, _⟩
          · omega
          · omega
          · exact h2 (hr0.name k (by omega) (by omega))
    have hown : ∀ b, b < w0.heap.size → (∀ k, g0.own b = some k → (hT 0).mem.get k = none) → ∀ k, g.own b = some k → K.mem.get k = none := fun b hb hl k hk => by
      rw [hX.ownold b hb] at hk
      have hnf : ¬ Fresh g0 k := fun hf => hf.2.2 b hk
      by_cases h1 : k < (hT 0).next
      · exact hnone k (hl k hk) (.inl h1)
      · by_cases h2 : k < top
        · exact hnone k (hl k hk) (.inr (.inr ⟨hnf, h2⟩))
        · exact hnone k (hl k hk) (.inr (.inl (by omega)))
    have hsz := hX.size
    refine hn g' (mergeM mem K K') (aS.put o.dst d) (A.put o.dst v) w' ⟨ha.inv, hI.core.merge hrK hY hR', (hI.arel.mono hY.le).put hdst hV, ?_, ?_, hI.addTmp hR hi hS hc ha.act, (AAct.put_defers' _ _ _).trans hI.nod⟩
    · refine ⟨hX.le.trans hY.le, fun b k h => hY.own b k (hX.own b k h), fun b hb => by rw [hY.ownold b (by omega), hX.ownold b hb], by rw [hY.os, hX.os], by rw [hY.tape, hX.tape], by rw [hY.output, hX.output], Nat.le_trans hX.size hY.size, fun b hb hl => ?_, hX.dom, hX.next, fun k hf hk => ?_, fun b hb hl ob => ?_, fun id n hid hk => ?_⟩
      · rw [hY.fr b (by omega) (hown b hb hl), hX.fr b hb hl]
      · refine hY.names k (hX.names k hf hk) ?_
        rw [ha.k1, ha.k2]
        omega
      · rw [hY.immfr b (by omega) (hown b hb hl), hX.immfr b hb hl]
      · rw [hY.slfr id n (hnone id hid (by omega)) (by rw [ha.k1, ha.k2]; omega), hX.slfr id n hid hk]
    · intro k hk hcv
      refine hY.names k (hI.fresh k hk fun m hh => hcv m (hh.mono fun j => .inl)) ?_
      rw [ha.k1, ha.k2]
      refine Nat.lt_or_ge k (hT i).next |>.imp id fun h1 => Nat.le_of_not_lt fun h2 => ?_
      exact hcv (i + 1) (.inr ⟨i, rfl, hi, .inr rfl, h1, h2⟩)
end

/-- What has been listed. -/
def Listed (listed : Array Bool) (j : Nat) : Prop := j < listed.size ∧ listed.getD j false = true
theorem filter_lt {p q : Nat → Bool} : ∀ (l : List Nat), (∀ x ∈ l, q x = true → p x = true) → (∃ x ∈ l, p x = true ∧ q x = false) → (l.filter q).length + 1 ≤ (l.filter p).length
  | [], _, ⟨x, hx, _⟩ => by simp at hx
  | y :: l, h, ⟨x, hx, hp, hq⟩ => by
    have hle : ∀ l : List Nat, (∀ x ∈ l, q x = true → p x = true) → (l.filter q).length ≤ (l.filter p).length := fun l hl => by
      induction l with
      | nil => simp
      | cons z l ih =>
        have := ih fun x hx => hl x (List.mem_cons_of_mem _ hx)
        have hz := hl z (List.mem_cons_self)
        simp only [List.filter_cons]
        cases hqz : q z with
        | true => rw [hz hqz]; simpa using this
        | false => cases p z <;> simp <;> omega
    have h1 := h y List.mem_cons_self
    have h2 : ∀ x ∈ l, q x = true → p x = true := fun x hx => h x (List.mem_cons_of_mem _ hx)
    simp only [List.mem_cons] at hx
    simp only [List.filter_cons]
    rcases hx with rfl | hx
    · rw [hp, hq]; have := hle l h2; simp; omega
    · have := filter_lt l h2 ⟨x, hx, hp, hq⟩
      cases hqy : q y with
      | true => rw [h1 hqy]; simp; omega
      | false => cases p y <;> simp <;> omega

section
variable {P : Program} {glob : Nat → Option (List D)} {N : Nat} {E : Env} {call : Call} {ops : Array Oper} {l : List CO} {aT : Nat → AAct} {hT : Nat → H} {rT : Nat → List Rec}
variable {top : Nat} {g0 g : G} {w0 w : World} {aS : AAct} {A : Act}

def openCount (ops : Array Oper) (listed : Array Bool) : Nat := ((List.range ops.size).filter fun i => !listed.getD i true).length

theorem listed_set {listed : Array Bool} {i j : Nat} (hi : i < listed.size) : Listed (listed.setIfInBounds i true) j ↔ Add (Listed listed) i j := by
  unfold Listed Add
  simp only [Array.size_setIfInBounds, Array.getD_eq_getD_getElem?]
  by_cases e : j = i
  · subst e; simp [hi]
  · rw [Array.getElem?_setIfInBounds_ne (Ne.symm e)]
    simp [e]
theorem MInv.congr {S S' : Nat → Prop} {mem : Nat → Option AObj} (h : ∀ j, S j ↔ S' j) (hI : MInv ops l aT hT S mem) : MInv ops l aT hT S' mem := by
  have : S = S' := funext fun j => propext (h j)
  rw [← this]; exact hI
theorem WInv.congr {S S' : Nat → Prop} {mem : Nat → Option AObj} (h : ∀ j, S j ↔ S' j) (hI : WInv P N ops l aT hT top g0 w0 S g mem aS A w) : WInv P N ops l aT hT top g0 w0 S' g mem aS A w := by
  have : S = S' := funext fun j => propext (h j)
  rw [← this]; exact hI

/-- Those whose edges are listed may go on. -/
theorem ready_back (hR : Run P glob N E call ops l aT hT rT) {S : Nat → Prop} (hcl : ∀ j, S j → ∀ i, i < j → mem? i (incAt ops j) = false → S i) {i : Nat} {o : Oper} (ho : ops[i]? = some o) (hed : ∀ e ∈ o.after, Region.binds .any e = true → S e.on) :
    ∀ k, k < i → mem? k (incAt ops i) = false → S k := by
  intro k hki hm
  have hi : i < ops.size := (Array.getElem?_eq_some_iff.1 ho).1
  obtain ⟨ok, gk, qk, _, hck, _⟩ := hR.at (j := k) (by omega)
  obtain ⟨oi, gi, qi, _, hci, _⟩ := hR.at hi
  have hb := (hR.pair k i _ _ o hki hck hci ho).2 hm
  unfold below at hb
  rw [List.any_eq_true] at hb
  obtain ⟨e, he, hb⟩ := hb
  simp only [Bool.and_eq_true, Bool.or_eq_true, Bool.not_eq_true'] at hb
  have hse := hed e (by simpa using he) hb.1
  rcases hb.2 with h1 | ⟨⟨h1, h2⟩, h3⟩
  · rw [← Nat.eq_of_beq_eq_true h1]; exact hse
  · have h4 : k + 1 ≤ e.on := by simpa [Nat.blt] using h2
    exact hcl e.on hse k (by omega) h3

theorem all_listed (hR : Run P glob N E call ops l aT hT rT) {listed : Array Bool} (hsz : listed.size = ops.size) (hr : Region.ready .any ops listed = []) : ∀ j, j < ops.size → Listed listed j := by
  intro j
  induction j using Nat.strongRecOn with
  | _ j ih =>
    intro hj
    refine Classical.byContradiction fun hn => ?_
    have hmem : j ∈ Region.ready .any ops listed := by
      unfold Region.ready
      rw [List.mem_filter]
      refine ⟨by simpa using hj, ?_⟩
      have h1 : ops[j]? = some ops[j] := by simp [hj]
      rw [h1]
      simp only [Option.map_some, Option.getD_some, Bool.and_eq_true, Bool.not_eq_true', Array.all_eq_true', Bool.or_eq_true]
      refine ⟨?_, fun e he => ?_⟩
      · cases hb : listed.getD j true with
        | false => rfl
        | true =>
          refine absurd ⟨by omega, ?_⟩ hn
          have hjl : j < listed.size := by omega
          simp [hjl] at hb ⊢; exact hb
      · cases hb : Region.binds .any e with
        | false => exact .inl rfl
        | true => exact .inr (ih e.on (hR.edge j _ h1 e he hb) (Nat.lt_trans (hR.edge j _ h1 e he hb) hj)).2
    rw [hr] at hmem
    cases hmem

theorem any_sim (hE : E.P = P) (hcall : CallSim P call glob) (hR : Run P glob N E call ops l aT hT rT) (hr0 : R P top g0 (hT 0) w0) (htop : (hT ops.size).next ≤ top) (hg0 : GlobOk g0 glob) {Q : Exit → Act → World → Prop}
    (hQ : ∀ w' g' A', Ext g0 (hT 0) w0 g' (hT ops.size) w' → R P top g' (hT ops.size) w' → ARel g' (aT ops.size) A' N → Q .normal A' w') :
    ∀ (fuel : Nat) (listed : Array Bool) {g : G} {mem : Nat → Option AObj} {aS : AAct} {A : Act} {w : World}, listed.size = ops.size → openCount ops listed ≤ fuel → WInv P N ops l aT hT top g0 w0 (Listed listed) g mem aS A w → wpAny P .any ops Q fuel listed A w := by
  have fin : ∀ (listed : Array Bool) {g : G} {mem : Nat → Option AObj} {aS : AAct} {A : Act} {w : World}, listed.size = ops.size → Region.ready .any ops listed = [] → WInv P N ops l aT hT top g0 w0 (Listed listed) g mem aS A w → Q .normal A w := by
    intro listed g mem aS A w hsz hr hI
    have hall := all_listed hR hsz hr
    have hD : Dom (hT 0) := hr0.dom
    have hDn := hR.dom hD (Nat.le_refl _)
    have hfirst : First ops l aT (Listed listed) ops.size := ⟨Nat.le_refl _, fun j hj _ => hall j hj, fun h => absurd h (Nat.lt_irrefl _)⟩
    have hR' : R P top g (hT ops.size) w := hI.core.toR (fun k ob hk => by
        have hlt : k < (hT ops.size).next := Nat.lt_of_not_le fun hq => by rw [hDn k hq] at hk; cases hk
        have hcv : ∃ m, m ≤ ops.size ∧ Cov ops hT (Listed listed) k m := by
          rcases hR.made (Nat.le_refl _) hlt with h | ⟨m, hm, h1, h2⟩
          · exact ⟨0, Nat.zero_le _, .inl ⟨rfl, h⟩⟩
          · exact ⟨m + 1, hm, .inr ⟨m, rfl, hm, hall m hm, h1, h2⟩⟩
        obtain ⟨m, hm, hcv⟩ := hcv
        rw [hI.m.cov _ hfirst k m hcv, Nat.max_eq_left hm, hk])
      (fun k h1 h2 => hI.fresh k h2 fun m hcv => by
        rcases hcv with ⟨_, h3⟩ | ⟨j, _, h3, _, _, h4⟩
        · have := hR.first_le (Nat.le_refl ops.size); omega
        · have := hR.nx (i := j + 1) (j := ops.size) h3 (Nat.le_refl _); omega)
      hDn htop (Nat.lt_of_lt_of_le hr0.pos.1 (hR.first_le (Nat.le_refl _)))
    refine hQ w g A hI.ext hR' ⟨fun t => ?_, hI.arel.size, by rw [hR.noDefers (Nat.le_refl _), ← hI.nod]; exact hI.arel.dfr⟩
    rw [← hI.tmp t ops.size (Nat.le_refl _) fun k c hc _ => ⟨fun h => by have := h.1; omega, fun h => hall k h⟩]
    exact hI.arel.tmp t
  intro fuel
  induction fuel with
  | zero =>
    intro listed g mem aS A w hsz hcount hI
    have hr : Region.ready .any ops listed = [] := by
      unfold Region.ready
      rw [List.filter_eq_nil_iff]
      intro i hi
      have h0 : (List.range ops.size).filter (fun i => !listed.getD i true) = [] := List.length_eq_zero_iff.1 (Nat.le_zero.1 hcount)
      rw [List.filter_eq_nil_iff] at h0
      have := h0 i hi
      simp only [Bool.not_eq_true, Bool.not_eq_false'] at this
      simp [this]
    exact ⟨hr, fin listed hsz hr hI⟩
  | succ fuel ih =>
    intro listed g mem aS A w hsz hcount hI
    refine ⟨fun hr => fin listed hsz hr hI, fun i hir => ?_⟩
    unfold Region.ready at hir
    rw [List.mem_filter] at hir
    obtain ⟨hi, hcond⟩ := hir
    have hi' : i < ops.size := by simpa using hi
    have ho : ops[i]? = some ops[i] := by simp [hi']
    rw [ho] at hcond
    simp only [Option.map_some, Option.getD_some, Bool.and_eq_true, Bool.not_eq_true', Array.all_eq_true', Bool.or_eq_true] at hcond
    have hil : i < listed.size := by omega
    have hS : ¬ Listed listed i := fun hs => by
      have h1 := hs.2
      have h2 := hcond.1
      simp [hil] at h1 h2
      rw [h1] at h2; cases h2
    have hed : ∀ e ∈ ops[i].after, Region.binds .any e = true → Listed listed e.on := fun e he hb => by
      rcases hcond.2 e he with h | h
      · rw [hb] at h; cases h
      · have := hR.edge i _ ho e he hb
        exact ⟨by omega, h⟩
    refine hI.step hE hcall hR hr0 htop hg0 hi' hS (ready_back hR hI.m.closed ho hed) fun g' mem' aS' A' w' hI' => ?_
    refine ih (listed.setIfInBounds i true) (by simpa using hsz) ?_ (hI'.congr fun j => (listed_set hil).symm)
    have hlt : openCount ops (listed.setIfInBounds i true) + 1 ≤ openCount ops listed := by
      unfold openCount
      refine filter_lt _ (fun x hx => ?_) ⟨i, hi, ?_, ?_⟩
      · by_cases e : x = i
        · subst e; simp [hil]
        · simp [Array.getElem?_setIfInBounds_ne (Ne.symm e)]
      · simp [hcond.1]
      · simp [hil]
    omega
end

theorem cdraw_no_panic {E : Env} {call : Call} {d : D} {a' : AAct} {h' : H} : ∀ (l : List CO) (i : Nat) (recs : List Rec) (incs : List (List Nat)) {a : AAct} {h : H}, cdraw E call i recs incs l a h ≠ .panic d a' h'
  | [], i, recs, incs, a, h => by simp [cdraw]
  | o :: l, i, recs, [], a, h => by simp [cdraw]
  | o :: l, i, recs, inc :: incs, a, h => by
    simp only [cdraw, Bool.cond_eq_ite]
    intro hh
    split at hh
    · split at hh
      · split at hh
        · split at hh
          · split at hh
            · exact cdraw_no_panic l _ _ _ hh
            · cases hh
          · cases hh
        · split at hh
          · split at hh
            · exact cdraw_no_panic l _ _ _ hh
            · cases hh
          · exact cdraw_no_panic l _ _ _ hh
      · cases hh
      · cases hh
    · exact cdraw_no_panic l _ _ _ hh

theorem draw_sim {P : Program} {glob : Nat → Option (List D)} {N : Nat} {E : Env} (hE : E.P = P) (hm : P.follows .mixedOrders = true) : DrawSim P glob N E := by
  intro call hcall hcg id ops l a h r a' h' hc hd hrun top g w A Q htop hr hA hg hQ
  cases r with
  | panic d => exact absurd hrun (cdraw_no_panic _ _ _ _)
  | exit e =>
  obtain ⟨rfl, aT, hT, rT, hR, e1, e2, e3, e4, e5⟩ := Run.of hcg hc hd hrun
  subst e1 e2 e4 e5
  refine wp_region_any hm ?_
  have hD : Dom (hT 0) := hr.dom
  have hnl : ∀ j, ¬ Listed (Array.replicate ops.size false) j := fun j hj => by
    have := hj.2
    simp [Array.getElem?_replicate] at this
    split at this <;> simp at this
  have hw : ({ w with drawn := w.drawn + 1 } : World).heap = w.heap := rfl
  refine any_sim hE hcall hR (w0 := w) hr htop hg (fun w' g' A' hX hR' hA' => hQ w' g' A' .normal hX hR' hA' rfl) ops.size _ (g := g) (mem := (hT 0).mem.get) (aS := aT 0) (by simp) ?_ ⟨⟨fun j hj => absurd hj (hnl j), fun j hj => absurd hj (hnl j), fun u hu k m hcv => ?_, fun k hk => ?_⟩, hr.toC.world hw, hA, ?_, fun k hk hno => ?_, fun t m hm' hwr => ?_, rfl⟩
  · unfold openCount
    exact Nat.le_trans (List.length_filter_le _ _) (by simp)
  · rcases hcv with ⟨h1, h2⟩ | ⟨j, _, _, h3, _⟩
    · subst h1
      rw [Nat.max_eq_left (Nat.zero_le _)]
      refine (hR.quiet (Nat.zero_le _) hu.le (fun j _ hj hl => hnl j (hu.done j hj hl)) h2).symm
    · exact absurd h3 (hnl j)
  · refine hD k (Nat.le_of_not_lt fun h1 => hk 0 (.inl ⟨rfl, h1⟩))
  · have hG := hR.growth (Nat.zero_le _) (Nat.le_refl ops.size)
    exact ⟨.refl g, fun _ _ x => x, fun _ _ => rfl, rfl, rfl, rfl, Nat.le_refl _, fun _ _ _ => rfl, hG.old, hG.next, fun _ x _ => x, fun _ _ _ _ => rfl, fun _ _ _ _ => rfl⟩
  · exact hr.name k (Nat.le_of_not_lt fun h1 => hno 0 (.inl ⟨rfl, h1⟩)) hk
  · refine (hR.keepTmp (Nat.zero_le _) hm' fun k c _ hkm hck hd' => ?_).symm
    exact hnl k ((hwr k c hck hd').2 hkm)
end Go.Abs
