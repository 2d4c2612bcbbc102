/- Towards regions in open order: the memory, whatever has been done. -/
import Derived.Test.YtmaphdhdfbgflaaGreatDoorAbsDraw3
set_option linter.unusedVariables false
namespace Go.Abs

/-- Names that are there when those of S are done, and the place behind which they are there. -/
def Cov (ops : Array Oper) (hT : Nat → H) (S : Nat → Prop) (k m : Nat) : Prop := (m = 0 ∧ k < (hT 0).next) ∨ ∃ j, m = j + 1 ∧ j < ops.size ∧ S j ∧ (hT j).next ≤ k ∧ k < (hT (j + 1)).next

/-- The first loud one that is not done. -/
structure First (ops : Array Oper) (l : List CO) (aT : Nat → AAct) (S : Nat → Prop) (u : Nat) : Prop where
  le : u ≤ ops.size
  done : ∀ j, j < u → LoudAt l aT j → S j
  notyet : u < ops.size → LoudAt l aT u ∧ ¬ S u

theorem First.ex (ops : Array Oper) (l : List CO) (aT : Nat → AAct) (S : Nat → Prop) : ∃ u, First ops l aT S u := by
  have h : ∀ m, (∀ j, j < m → LoudAt l aT j → S j) ∨ ∃ u, u < m ∧ (LoudAt l aT u ∧ ¬ S u) ∧ ∀ j, j < u → LoudAt l aT j → S j := by
    intro m
    induction m with
    | zero => exact .inl fun j hj => by omega
    | succ m ih =>
      rcases ih with ih | ⟨u, h1, h2, h3⟩
      · by_cases hm : LoudAt l aT m ∧ ¬ S m
        · exact .inr ⟨m, by omega, hm, ih⟩
        · refine .inl fun j hj hl => ?_
          by_cases e : j = m
          · subst e; exact Classical.byContradiction fun hs => hm ⟨hl, hs⟩
          · exact ih j (by omega) hl
      · exact .inr ⟨u, by omega, h2, h3⟩
  rcases h ops.size with h | ⟨u, h1, h2, h3⟩
  · exact ⟨ops.size, Nat.le_refl _, h, fun hh => absurd hh (Nat.lt_irrefl _)⟩
  · exact ⟨u, Nat.le_of_lt h1, h3, fun _ => h2⟩

structure MInv (ops : Array Oper) (l : List CO) (aT : Nat → AAct) (hT : Nat → H) (S : Nat → Prop) (mem : Nat → Option AObj) : Prop where
  lt : ∀ j, S j → j < ops.size
  closed : ∀ j, S j → ∀ i, i < j → mem? i (incAt ops j) = false → S i
  cov : ∀ u, First ops l aT S u → ∀ k m, Cov ops hT S k m → mem k = (hT (max u m)).mem.get k
  nocov : ∀ k, (∀ m, ¬ Cov ops hT S k m) → mem k = none

section
variable {P : Program} {glob : Nat → Option (List D)} {N : Nat} {E : Env} {call : Call} {ops : Array Oper} {l : List CO} {aT : Nat → AAct} {hT : Nat → H} {rT : Nat → List Rec} {S : Nat → Prop} {mem : Nat → Option AObj} {i : Nat}

def Add (S : Nat → Prop) (i j : Nat) : Prop := S j ∨ j = i

theorem First.back (hn : ¬ LoudAt l aT i) {u : Nat} (h : First ops l aT (Add S i) u) : First ops l aT S u := by
  refine ⟨h.le, fun j hj hl => ?_, fun hu => ⟨(h.notyet hu).1, fun hs => (h.notyet hu).2 (.inl hs)⟩⟩
  rcases h.done j hj hl with h1 | rfl
  · exact h1
  · exact absurd hl hn

theorem Run.part (hR : Run P glob N E call ops l aT hT rT) {i j k : Nat} (hi : i < ops.size) (hj : j < ops.size) (h1 : (hT i).next ≤ k) (h2 : k < (hT (i + 1)).next) (h3 : (hT j).next ≤ k) (h4 : k < (hT (j + 1)).next) : i = j := by
  rcases Nat.lt_trichotomy i j with h | h | h
  · have := hR.nx (i := i + 1) (j := j) h (by omega); omega
  · exact h
  · have := hR.nx (i := j + 1) (j := i) h (by omega); omega
theorem Run.first_le (hR : Run P glob N E call ops l aT hT rT) {j : Nat} (hj : j ≤ ops.size) : (hT 0).next ≤ (hT j).next := hR.nx (Nat.zero_le _) hj
/-- A name that is there at j was made ahead of it. -/
theorem Run.made (hR : Run P glob N E call ops l aT hT rT) {k : Nat} : ∀ {j : Nat}, j ≤ ops.size → k < (hT j).next → k < (hT 0).next ∨ ∃ m, m < j ∧ (hT m).next ≤ k ∧ k < (hT (m + 1)).next
  | 0, _, h => .inl h
  | j + 1, hj, h => by
    by_cases h1 : k < (hT j).next
    · rcases hR.made (j := j) (by omega) h1 with h2 | ⟨m, h2, h3⟩
      · exact .inl h2
      · exact .inr ⟨m, by omega, h3⟩
    · exact .inr ⟨j, by omega, by omega, h⟩
theorem Cov.mono {S' : Nat → Prop} (h : ∀ j, S j → S' j) {k m : Nat} (hc : Cov ops hT S k m) : Cov ops hT S' k m := by
  rcases hc with hc | ⟨j, h1, h2, h3, h4⟩
  · exact .inl hc
  · exact .inr ⟨j, h1, h2, h _ h3, h4⟩
theorem Cov.add (hi : i < ops.size) {k m : Nat} (hc : Cov ops hT (Add S i) k m) : Cov ops hT S k m ∨ (m = i + 1 ∧ (hT i).next ≤ k ∧ k < (hT (i + 1)).next) := by
  rcases hc with hc | ⟨j, h1, h2, h3 | rfl, h4⟩
  · exact .inl (.inl hc)
  · exact .inl (.inr ⟨j, h1, h2, h3, h4⟩)
  · exact .inr ⟨h1, h4⟩
theorem Run.notin (hR : Run P glob N E call ops l aT hT rT) (hi : i < ops.size) (hS : ¬ S i) {k m : Nat} (hc : Cov ops hT S k m) : ¬ ((hT i).next ≤ k ∧ k < (hT (i + 1)).next) := by
  rintro ⟨h1, h2⟩
  rcases hc with ⟨_, h3⟩ | ⟨j, _, h3, h4, h5, h6⟩
  · have := hR.first_le (j := i) (by omega); omega
  · have := hR.part hi h3 h1 h2 h5 h6; subst this; exact hS h4

/-- Of two that are open against each other, what the text's order says. -/
theorem Run.open (hR : Run P glob N E call ops l aT hT rT) {i j : Nat} {x y : CO} (hij : i < j) (hj : j < ops.size) (hx : l[i]? = some x) (hy : l[j]? = some y) (hm : mem? i (incAt ops j) = true) : openOk (kindC x.op) (kindC y.op) = true ∧ apartC x y = true :=
  (hR.pair i j x y ops[j] hij hx hy (by simp [hj])).1 hm
theorem MInv.opens (hI : MInv ops l aT hT S mem) (hS : ¬ S i) {k : Nat} (hk : S k) (hik : i < k) : mem? i (incAt ops k) = true := by
  cases h : mem? i (incAt ops k) with
  | true => rfl
  | false => exact absurd (hI.closed k hk i hik h) hS

theorem merge_self (mem : Nat → Option AObj) (K : H) (h : ∀ k o, K.mem.get k = some o → mem k = some o) (k : Nat) : mergeM mem K K k = mem k := by
  unfold mergeM
  cases hk : K.mem.get k with
  | none => rfl
  | some o => simp only; exact (h k o hk).symm

/-- The memory behind one more operation. -/
structure After (ops : Array Oper) (l : List CO) (aT : Nat → AAct) (hT : Nat → H) (E : Env) (call : Call) (S : Nat → Prop) (mem : Nat → Option AObj) (i : Nat) (c : CO) (K K' : H) (d : D) : Prop where
  k1 : K.next = (hT i).next
  k2 : K'.next = (hT (i + 1)).next
  run : den c.op E call (aT i) K = .ok d K'
  act : aT (i + 1) = (aT i).put c.dst d
  dom : Dom K
  sub : ∀ k o, K.mem.get k = some o → mem k = some o
  inv : MInv ops l aT hT (Add S i) (mergeM mem K K')

theorem MInv.addLt (hI : MInv ops l aT hT S mem) (hi : i < ops.size) : ∀ j, Add S i j → j < ops.size := fun j hj => hj.elim (hI.lt j) fun e => by omega
theorem MInv.addClosed (hI : MInv ops l aT hT S mem) (hready : ∀ k, k < i → mem? k (incAt ops i) = false → S k) : ∀ j, Add S i j → ∀ k, k < j → mem? k (incAt ops j) = false → Add S i k := by
  rintro j (hj | rfl) k hk hm
  · exact .inl (hI.closed j hj k hk hm)
  · exact .inl (hready k hk hm)

/-- One that leaves the memory and makes no name. -/
theorem MInv.still (hR : Run P glob N E call ops l aT hT rT) (hI : MInv ops l aT hT S mem) (hi : i < ops.size) (hready : ∀ k, k < i → mem? k (incAt ops i) = false → S k) (hn : ¬ LoudAt l aT i) (hh : (hT (i + 1)).next = (hT i).next)
    {mem' : Nat → Option AObj} (hmem : ∀ k, mem' k = mem k) : MInv ops l aT hT (Add S i) mem' := by
  refine ⟨hI.addLt hi, hI.addClosed hready, fun u hu k m hc => ?_, fun k hk => ?_⟩
  · rw [hmem k]
    rcases hc.add hi with h | ⟨_, h1, h2⟩
    · exact hI.cov u (hu.back hn) k m h
    · omega
  · rw [hmem k]; exact hI.nocov k fun m hc => hk m (hc.mono fun j => .inl)

theorem MInv.pure (hR : Run P glob N E call ops l aT hT rT) (hI : MInv ops l aT hT S mem) (hi : i < ops.size) (hready : ∀ k, k < i → mem? k (incAt ops i) = false → S k) {c : CO} (hc : l[i]? = some c) {d : D} (hk : kindC c.op = .pure)
    (hrun : den c.op E call (aT i) (hT i) = .ok d (hT (i + 1))) (hact : aT (i + 1) = (aT i).put c.dst d) : ∃ K K', After ops l aT hT E call S mem i c K K' d := by
  obtain ⟨K', k1, k2, k3, k4, k5⟩ := den_indep (.inl hk) hrun
  have hh : hT (i + 1) = hT i := k4 hk
  have hn : ¬ LoudAt l aT i := fun ⟨c', h1, _, h2⟩ => by rw [hc] at h1; cases h1; rw [kind_not_loud (.inl hk)] at h2; cases h2
  have hK' : ∀ k, K'.mem.get k = none := fun k => by
    cases hg : K'.mem.get k with
    | none => rfl
    | some o => have := k3 k o hg; rw [hh] at this; omega
  refine ⟨⟨(hT i).next, .nil⟩, K', rfl, by rw [k2], k1, hact, fun k _ => rfl, fun k o h => (by rw [show (Tr.nil : Tr AObj).get k = none from rfl] at h; cases h), ?_⟩
  refine hI.still hR hi hready hn (by rw [hh]) fun k => ?_
  unfold mergeM
  rw [hK' k]
  rfl
theorem MInv.alloc (hR : Run P glob N E call ops l aT hT rT) (hD : Dom (hT 0)) (hI : MInv ops l aT hT S mem) (hi : i < ops.size) (hS : ¬ S i) (hready : ∀ k, k < i → mem? k (incAt ops i) = false → S k) {c : CO} (hc : l[i]? = some c) {d : D} (hk : kindC c.op = .alloc)
    (hrun : den c.op E call (aT i) (hT i) = .ok d (hT (i + 1))) (hact : aT (i + 1) = (aT i).put c.dst d) : ∃ K K', After ops l aT hT E call S mem i c K K' d := by
  obtain ⟨K', k1, k2, k3, k4, k5⟩ := den_indep (.inr hk) hrun
  have hn : ¬ LoudAt l aT i := fun ⟨c', h1, _, h2⟩ => by rw [hc] at h1; cases h1; rw [kind_not_loud (.inr (.inl hk))] at h2; cases h2
  refine ⟨⟨(hT i).next, .nil⟩, K', rfl, by rw [k2], k1, hact, fun k _ => rfl, fun k o h => (by rw [show (Tr.nil : Tr AObj).get k = none from rfl] at h; cases h), ?_⟩
  have hmg : ∀ k, mergeM mem ⟨(hT i).next, .nil⟩ K' k = match K'.mem.get k with
      | some o => some o
      | none => mem k := fun k => by unfold mergeM; cases K'.mem.get k <;> rfl
  have hnew : ∀ k, (hT i).next ≤ k → k < (hT (i + 1)).next → mergeM mem ⟨(hT i).next, .nil⟩ K' k = (hT (i + 1)).mem.get k := fun k h1 h2 => by
    rw [hmg, k5 k, hR.dom hD (Nat.le_of_lt hi) k h1, hI.nocov k fun m hcv => hR.notin hi hS hcv ⟨h1, h2⟩]
    cases K'.mem.get k <;> rfl
  refine ⟨hI.addLt hi, hI.addClosed hready, fun u hu k m hcv => ?_, fun k hk => ?_⟩
  · rcases hcv.add hi with h | ⟨rfl, h1, h2⟩
    · have hno : K'.mem.get k = none := by
        cases hg : K'.mem.get k with
        | none => rfl
        | some o => exact absurd (k3 k o hg) (hR.notin hi hS h)
      rw [hmg, hno]
      exact hI.cov u (hu.back hn) k m h
    · rw [hnew k h1 h2]
      have hu' := hu.back hn
      have hle := hu'.le
      refine (hR.quiet (Nat.le_max_right u (i + 1)) (by omega) (fun j h3 h4 hl => ?_) h2).symm
      have hju : j < u := by omega
      have hSj := hu'.done j hju hl
      obtain ⟨cj, hcj, _, hlj⟩ := hl
      exact open_alloc_loud (hR.open (by omega) (hI.lt j hSj) hc hcj (hI.opens hS hSj (by omega))).1 hk hlj
  · rw [hmg]
    have h1 : ¬ ((hT i).next ≤ k ∧ k < (hT (i + 1)).next) := fun h => hk (i + 1) (.inr ⟨i, rfl, hi, .inr rfl, h⟩)
    cases hg : K'.mem.get k with
    | none => exact hI.nocov k fun m hcv => hk m (hcv.mono fun j => .inl)
    | some o => exact absurd (k3 k o hg) h1
theorem MInv.loud (hR : Run P glob N E call ops l aT hT rT) (hD : Dom (hT 0)) (hI : MInv ops l aT hT S mem) (hi : i < ops.size) (hS : ¬ S i) (hready : ∀ k, k < i → mem? k (incAt ops i) = false → S k) {c : CO} (hc : l[i]? = some c) {d : D} (hw : awanted (aT i) c = true) (hk : isLoud c.op = true)
    (hrun : den c.op E call (aT i) (hT i) = .ok d (hT (i + 1))) (hact : aT (i + 1) = (aT i).put c.dst d) : ∃ K K', After ops l aT hT E call S mem i c K K' d := by
  have hLi : LoudAt l aT i := ⟨c, hc, hw, hk⟩
  have hDi := hR.dom hD (Nat.le_of_lt hi)
  have hDi' := hR.dom hD (j := i + 1) hi
  have hstep := hR.nx (i := i) (j := i + 1) (Nat.le_succ _) hi
  -- what is loud and ahead is done
  have hahead : ∀ k, k < i → LoudAt l aT k → S k := fun k hki hl => by
    cases hm : mem? k (incAt ops i) with
    | false => exact hready k hki hm
    | true =>
      obtain ⟨ck, hck, _, hlk⟩ := hl
      exact (open_loud_loud (hR.open hki hi hck hc hm).1 hlk hk).elim
  have hfi : First ops l aT S i := ⟨Nat.le_of_lt hi, hahead, fun _ => ⟨hLi, hS⟩⟩
  -- what is loud and behind is not done
  have hbehind : ∀ k, i < k → LoudAt l aT k → ¬ S k := fun k hik hl hs => by
    obtain ⟨ck, hck, _, hlk⟩ := hl
    exact open_loud_loud (hR.open hik (hI.lt k hs) hc hck (hI.opens hS hs hik)).1 hk hlk
  -- who makes names ahead is done
  have hmk : ∀ k, k < (hT i).next → ∃ m, m ≤ i ∧ Cov ops hT S k m := fun k hk1 => by
    rcases hR.made (Nat.le_of_lt hi) hk1 with h | ⟨m, hm, h1, h2⟩
    · exact ⟨0, Nat.zero_le _, .inl ⟨rfl, h⟩⟩
    · refine ⟨m + 1, hm, .inr ⟨m, rfl, by omega, ?_, h1, h2⟩⟩
      rcases hR.maker (by omega) (Nat.lt_of_le_of_lt h1 h2) with h3 | ⟨cm, hcm, h3⟩
      · exact hahead m hm h3
      · cases hmm : mem? m (incAt ops i) with
        | false => exact hready m hm hmm
        | true => exact (open_alloc_loud (hR.open hm hi hcm hc hmm).1 h3 hk).elim
  have hold : ∀ k, k < (hT i).next → mem k = (hT i).mem.get k := fun k hk1 => by
    obtain ⟨m, hm, hcv⟩ := hmk k hk1
    rw [hI.cov i hfi k m hcv, Nat.max_eq_left hm]
  have hsub : ∀ k o, (hT i).mem.get k = some o → mem k = some o := fun k o ho => by
    have : k < (hT i).next := Nat.lt_of_not_le fun hq => by rw [hDi k hq] at ho; cases ho
    rw [hold k this, ho]
  refine ⟨hT i, hT (i + 1), rfl, rfl, hrun, hact, hDi, hsub, ?_⟩
  have hnew : ∀ k, k < (hT (i + 1)).next → mergeM mem (hT i) (hT (i + 1)) k = (hT (i + 1)).mem.get k := fun k hk1 => by
    unfold mergeM
    cases hg : (hT (i + 1)).mem.get k with
    | some o => rfl
    | none =>
      simp only
      cases hg2 : (hT i).mem.get k with
      | some o => rfl
      | none =>
        simp only
        by_cases hk2 : k < (hT i).next
        · rw [hold k hk2, hg2]
        · exact hI.nocov k fun m hcv => hR.notin hi hS hcv ⟨by omega, hk1⟩
  have hfar : ∀ k, (hT (i + 1)).next ≤ k → mergeM mem (hT i) (hT (i + 1)) k = mem k := fun k hk1 => by
    unfold mergeM
    rw [hDi' k hk1, hDi k (by omega)]
  refine ⟨hI.addLt hi, hI.addClosed hready, fun u hu k m hcv => ?_, fun k hk1 => ?_⟩
  · have hule := hu.le
    have hiu : i < u := by
      rcases Nat.lt_trichotomy u i with h | h | h
      · have h1 := hu.notyet (by omega)
        exact absurd (.inl (hahead u h h1.1)) h1.2
      · have h1 := hu.notyet (by omega)
        exact absurd (.inr h) h1.2
      · exact h
    have hqu : ∀ j, i < j → j < u → ¬ LoudAt l aT j := fun j h1 h2 hl => by
      rcases hu.done j h2 hl with h3 | h3
      · exact hbehind j h1 hl h3
      · omega
    have hm : m ≤ ops.size := by
      rcases hcv with ⟨h, _⟩ | ⟨j, h, hj, _⟩ <;> omega
    by_cases hk1 : k < (hT (i + 1)).next
    · rw [hnew k hk1]
      have hmi : m ≤ i + 1 := by
        rcases hcv with ⟨h, _⟩ | ⟨j, h, hj, _, h5, h6⟩
        · omega
        · refine Nat.le_of_not_lt fun hq => ?_
          have := hR.nx (i := i + 1) (j := j) (by omega) (by omega)
          omega
      refine (hR.quiet (i := i + 1) (j := max u m) (by omega) (by omega) (fun j h3 h4 => hqu j (by omega) (by omega)) hk1).symm
    · rw [hfar k (by omega)]
      rcases hcv.add hi with h | ⟨_, h1, h2⟩
      · rw [hI.cov i hfi k m h]
        obtain ⟨j, rfl, hj, hSj, h5, h6⟩ : ∃ j, m = j + 1 ∧ j < ops.size ∧ S j ∧ (hT j).next ≤ k ∧ k < (hT (j + 1)).next := by
          rcases h with ⟨_, h⟩ | h
          · have := hR.first_le (j := i) (by omega); omega
          · exact h
        have hij : i < j := by
          refine Nat.lt_of_not_le fun hq => ?_
          have := hR.nx (i := j + 1) (j := i + 1) (by omega) hi
          omega
        rw [Nat.max_eq_right (by omega : i ≤ j + 1)]
        refine (hR.quiet (i := j + 1) (j := max u (j + 1)) (by omega) (by omega) (fun q h3 h4 => hqu q (by omega) (by omega)) h6).symm
      · omega
  · have h1 : ¬ ((hT i).next ≤ k ∧ k < (hT (i + 1)).next) := fun h => hk1 (i + 1) (.inr ⟨i, rfl, hi, .inr rfl, h⟩)
    have h2 : mem k = none := hI.nocov k fun m hcv => hk1 m (hcv.mono fun j => .inl)
    by_cases h3 : (hT (i + 1)).next ≤ k
    · rw [hfar k h3, h2]
    · have h4 : k < (hT i).next := by omega
      obtain ⟨m, _, hcv⟩ := hmk k h4
      exact absurd (hcv.mono fun j => .inl) (hk1 m)
theorem MInv.reads (hR : Run P glob N E call ops l aT hT rT) (hD : Dom (hT 0)) (hI : MInv ops l aT hT S mem) (hi : i < ops.size) (hS : ¬ S i) (hready : ∀ k, k < i → mem? k (incAt ops i) = false → S k) {c : CO} (hc : l[i]? = some c) {d : D} (hk : kindC c.op = .reads)
    (hrun : den c.op E call (aT i) (hT i) = .ok d (hT (i + 1))) (hact : aT (i + 1) = (aT i).put c.dst d) : ∃ K K', After ops l aT hT E call S mem i c K K' d := by
  have hh : hT (i + 1) = hT i := den_reads (.inr hk) hrun
  have hn : ¬ LoudAt l aT i := fun ⟨c', h1, _, h2⟩ => by rw [hc] at h1; cases h1; rw [kind_not_loud (.inr (.inr (.inr hk)))] at h2; cases h2
  have hDi := hR.dom hD (Nat.le_of_lt hi)
  have hahead : ∀ k, k < i → LoudAt l aT k → S k := fun k hki hl => by
    cases hm : mem? k (incAt ops i) with
    | false => exact hready k hki hm
    | true =>
      obtain ⟨ck, hck, _, hlk⟩ := hl
      exact (open_loud_reads (hR.open hki hi hck hc hm).1 hlk hk).elim
  have hbehind : ∀ k, i < k → LoudAt l aT k → ¬ S k := fun k hik hl hs => by
    obtain ⟨ck, hck, _, hlk⟩ := hl
    exact open_reads_loud (hR.open hik (hI.lt k hs) hc hck (hI.opens hS hs hik)).1 hk hlk
  obtain ⟨u, hu⟩ := First.ex ops l aT S
  have hule := hu.le
  have hiu : i ≤ u := Nat.le_of_not_lt fun hq => by
    have h1 := hu.notyet (by omega)
    exact h1.2 (hahead u hq h1.1)
  have hold : ∀ k, k < (hT i).next → mem k = (hT i).mem.get k := fun k hk1 => by
    have hq : ∀ m, m ≤ i → Cov ops hT S k m → mem k = (hT i).mem.get k := fun m hm hcv => by
      rw [hI.cov u hu k m hcv]
      refine hR.quiet (by omega) (by omega) (fun j h1 h2 hl => ?_) hk1
      by_cases e : j = i
      · subst e; exact hn hl
      · exact hbehind j (by omega) hl (hu.done j (by omega) hl)
    rcases hR.made (Nat.le_of_lt hi) hk1 with h | ⟨m, hm, h1, h2⟩
    · exact hq 0 (Nat.zero_le _) (.inl ⟨rfl, h⟩)
    · refine hq (m + 1) hm (.inr ⟨m, rfl, by omega, ?_, h1, h2⟩)
      rcases hR.maker (by omega) (Nat.lt_of_le_of_lt h1 h2) with h3 | ⟨cm, hcm, h3⟩
      · exact hahead m hm h3
      · cases hmm : mem? m (incAt ops i) with
        | false => exact hready m hm hmm
        | true => exact (open_alloc_reads (hR.open hm hi hcm hc hmm).1 h3 hk).elim
  have hsub : ∀ k o, (hT i).mem.get k = some o → mem k = some o := fun k o ho => by
    have : k < (hT i).next := Nat.lt_of_not_le fun hq => by rw [hDi k hq] at ho; cases ho
    rw [hold k this, ho]
  refine ⟨hT i, hT i, rfl, by rw [hh], by rw [hh] at hrun; exact hrun, hact, hDi, hsub, ?_⟩
  exact hI.still hR hi hready hn (by rw [hh]) (merge_self mem _ hsub)
theorem MInv.load (hR : Run P glob N E call ops l aT hT rT) (hD : Dom (hT 0)) (hI : MInv ops l aT hT S mem) (hi : i < ops.size) (hS : ¬ S i) (hready : ∀ k, k < i → mem? k (incAt ops i) = false → S k) {c : CO} (hc : l[i]? = some c) {d : D} (hw : awanted (aT i) c = true) (hk : kindC c.op = .load)
    (hrun : den c.op E call (aT i) (hT i) = .ok d (hT (i + 1))) (hact : aT (i + 1) = (aT i).put c.dst d) (hcov : ∀ k off n, readsOf (aT i) c.op = some (.ptr k off, n) → ∃ m, Cov ops hT S k m) : ∃ K K', After ops l aT hT E call S mem i c K K' d := by
  have hh : hT (i + 1) = hT i := den_reads (.inl hk) hrun
  have hn : ¬ LoudAt l aT i := fun ⟨c', h1, _, h2⟩ => by rw [hc] at h1; cases h1; rw [kind_not_loud (.inr (.inr (.inl hk)))] at h2; cases h2
  have hDi := hR.dom hD (Nat.le_of_lt hi)
  obtain ⟨x, n, hrd, hload⟩ := load_reads (aT i) hk
  have hcs : ∃ cs, readCells (hT i) x n = some cs := by
    cases hR.step i c hc with
    | skip hw' => rw [hw] at hw'; cases hw'
    | read d y n' cs _ _ _ hrd' hcs => rw [hrd] at hrd'; cases hrd'; exact ⟨cs, hcs⟩
    | loud d _ _ _ hrd' => rw [hrd] at hrd'; cases hrd'
    | quiet d _ _ _ hrd' => rw [hrd] at hrd'; cases hrd'
  obtain ⟨cs, hcs⟩ := hcs
  rw [hh] at hrun
  have fin : ∀ K : H, K.next = (hT i).next → Dom K → (∀ k o, K.mem.get k = some o → mem k = some o) → readCells K x n = some cs → ∃ K K', After ops l aT hT E call S mem i c K K' d := fun K h1 h2 h3 h4 =>
    ⟨K, K, h1, by rw [h1, hh], hload E call K (hT i) cs d h4 hcs hrun, hact, h2, h3, hI.still hR hi hready hn (by rw [hh]) (merge_self mem _ h3)⟩
  by_cases hx : ∃ k off, x = .ptr k off
  · obtain ⟨k, off, rfl⟩ := hx
    have hki : k < (hT i).next := Nat.lt_of_not_le fun hq => by
      simp only [readCells, hDi k hq] at hcs; cases hcs
    obtain ⟨m, hcv⟩ := hcov k off n hrd
    have hmi : m ≤ i := by
      rcases hcv with ⟨h, _⟩ | ⟨j, h, hj, _, h5, h6⟩
      · omega
      · refine Nat.le_of_not_lt fun hq => ?_
        have := hR.nx (i := i) (j := j) (by omega) (by omega)
        omega
    have hkm : k < (hT m).next := by
      rcases hcv with ⟨h, h2⟩ | ⟨j, h, hj, _, h5, h6⟩
      · subst h; exact h2
      · subst h; exact h6
    obtain ⟨u, hu⟩ := First.ex ops l aT S
    have hule := hu.le
    have hmem := hI.cov u hu k m hcv
    -- the same cells where the memory stands
    have hsame : readCells (hT (max u m)) (.ptr k off) n = some cs := by
      have hcong : ∀ a b, (hT a).mem.get k = (hT b).mem.get k → readCells (hT a) (.ptr k off) n = readCells (hT b) (.ptr k off) n := fun a b e => by simp only [readCells, e]
      by_cases hiu : i < u
      · rw [Nat.max_eq_left (by omega)]
        -- the last loud one below u, if any
        have hlast : ∀ v, i ≤ v → v ≤ u → readCells (hT v) (.ptr k off) n = some cs := by
          intro v
          induction v with
          | zero => intro h1 _; have : i = 0 := by omega
                    subst this; exact hcs
          | succ v ih =>
            intro h1 h2
            by_cases e : i = v + 1
            · subst e; exact hcs
            · by_cases hl : LoudAt l aT v
              · have hvi : v ≠ i := fun e => by subst e; exact hn hl
                have hSv := hu.done v (by omega) hl
                obtain ⟨cs', r1, r2⟩ := hR.read_behind (i := i) (k := v) (by omega) (by omega) hl hc hw hrd (hI.opens hS hSv (by omega))
                rw [r1] at hcs; cases hcs; exact r2
              · rw [hcong (v + 1) v (hR.quiet1 (by omega) hl (Nat.lt_of_lt_of_le hki (hR.nx (by omega) (by omega)))), ih (by omega) (by omega)]
        exact hlast u (by omega) (Nat.le_refl _)
      · -- the first loud one from there, if any
        have hfirst : ∀ q v, v + q = i → max u m ≤ v → readCells (hT v) (.ptr k off) n = some cs := by
          intro q
          induction q with
          | zero => intro v h1 h2; have : v = i := by omega
                    subst this; exact hcs
          | succ q ih =>
            intro v h1 h2
            by_cases hl : LoudAt l aT v
            · have hSv : ¬ S v := fun hs => by
                by_cases e : v = u
                · subst e; exact (hu.notyet (by omega)).2 hs
                · have h3 := hu.notyet (by omega)
                  obtain ⟨cu, hcu, _, hlu⟩ := h3.1
                  obtain ⟨cv, hcv', _, hlv⟩ := hl
                  exact open_loud_loud (hR.open (i := u) (j := v) (by omega) (by omega) hcu hcv' (hI.opens h3.2 hs (by omega))).1 hlu hlv
              have hmm : mem? v (incAt ops i) = true := by
                cases h : mem? v (incAt ops i) with
                | true => rfl
                | false => exact absurd (hready v (by omega) h) hSv
              obtain ⟨cs', r1, r2⟩ := hR.read_before (by omega) hi hl hc hw hrd hmm
              rw [r1] at hcs; cases hcs; exact r2
            · rw [hcong v (v + 1) (hR.quiet1 (by omega) hl (Nat.lt_of_lt_of_le hkm (hR.nx (by omega) (by omega)))).symm, ih (v + 1) (by omega) (by omega)]
        exact hfirst (i - max u m) (max u m) (by omega) (Nat.le_refl _)
    cases ho : mem k with
    | none =>
      rw [ho] at hmem
      simp only [readCells, ← hmem] at hsame; cases hsame
    | some o =>
      have hg : ∀ j, (Tr.set (.nil : Tr AObj) k (some o)).get j = if j = k then some o else none := fun j => by rw [Tr.get_set, Tr.get_nil]
      refine fin ⟨(hT i).next, Tr.set .nil k (some o)⟩ rfl (fun j hj => ?_) (fun j o' hj => ?_) ?_
      · have : j ≠ k := fun e => by subst e; exact absurd hki (Nat.not_lt.2 hj)
        show (Tr.set (.nil : Tr AObj) k (some o)).get j = none
        rw [hg, if_neg this]
      · have hj' : (Tr.set (.nil : Tr AObj) k (some o)).get j = some o' := hj
        rw [hg] at hj'
        split at hj'
        · rename_i e; subst e; rw [ho]; exact hj'
        · cases hj'
      · have e1 : (⟨(hT i).next, Tr.set .nil k (some o)⟩ : H).mem.get k = (hT (max u m)).mem.get k := by
          show (Tr.set (.nil : Tr AObj) k (some o)).get k = _
          rw [hg, if_pos rfl, ← hmem, ho]
        rw [← hsame]
        simp only [readCells]
        rw [e1]
  · refine fin ⟨(hT i).next, .nil⟩ rfl (fun k _ => rfl) (fun k o h => by rw [show (Tr.nil : Tr AObj).get k = none from rfl] at h; cases h) ?_
    cases x <;> first | exact absurd ⟨_, _, rfl⟩ hx | exact hcs

/-- One more operation is done. -/
theorem MInv.next (hR : Run P glob N E call ops l aT hT rT) (hD : Dom (hT 0)) (hI : MInv ops l aT hT S mem) (hi : i < ops.size) (hS : ¬ S i) (hready : ∀ k, k < i → mem? k (incAt ops i) = false → S k) {c : CO} (hc : l[i]? = some c) (hw : awanted (aT i) c = true)
    (hcov : ∀ k off n, readsOf (aT i) c.op = some (.ptr k off, n) → ∃ m, Cov ops hT S k m) : ∃ K K' d, After ops l aT hT E call S mem i c K K' d := by
  have hrun : ∃ d, den c.op E call (aT i) (hT i) = .ok d (hT (i + 1)) ∧ aT (i + 1) = (aT i).put c.dst d := by
    cases hR.step i c hc with
    | skip hw' => rw [hw] at hw'; cases hw'
    | read d y n' cs _ h1 h2 => exact ⟨d, h1, h2⟩
    | loud d _ h1 h2 => exact ⟨d, h1, h2⟩
    | quiet d _ h1 h2 => exact ⟨d, h1, h2⟩
  obtain ⟨d, h1, h2⟩ := hrun
  rcases kind_cases c.op with h | h | h | h | h
  · obtain ⟨K, K', h3⟩ := hI.loud hR hD hi hS hready hc hw h h1 h2; exact ⟨K, K', d, h3⟩
  · obtain ⟨K, K', h3⟩ := hI.pure hR hi hready hc h h1 h2; exact ⟨K, K', d, h3⟩
  · obtain ⟨K, K', h3⟩ := hI.alloc hR hD hi hS hready hc h h1 h2; exact ⟨K, K', d, h3⟩
  · obtain ⟨K, K', h3⟩ := hI.load hR hD hi hS hready hc hw h h1 h2 hcov; exact ⟨K, K', d, h3⟩
  · obtain ⟨K, K', h3⟩ := hI.reads hR hD hi hS hready hc h h1 h2; exact ⟨K, K', d, h3⟩
theorem MInv.skip (hR : Run P glob N E call ops l aT hT rT) (hI : MInv ops l aT hT S mem) (hi : i < ops.size) (hready : ∀ k, k < i → mem? k (incAt ops i) = false → S k) {c : CO} (hc : l[i]? = some c) (hw : awanted (aT i) c = false) : aT (i + 1) = (aT i).put c.dst undefD ∧ (hT (i + 1)).next = (hT i).next ∧ MInv ops l aT hT (Add S i) mem := by
  have hn : ¬ LoudAt l aT i := fun ⟨c', h1, h2, _⟩ => by rw [hc] at h1; cases h1; rw [hw] at h2; cases h2
  cases hR.step i c hc with
  | skip _ h1 h2 _ => exact ⟨h1, by rw [h2], hI.still hR hi hready hn (by rw [h2]) fun _ => rfl⟩
  | read d y n' cs hw' => rw [hw] at hw'; cases hw'
  | loud d hw' => rw [hw] at hw'; cases hw'
  | quiet d hw' => rw [hw] at hw'; cases hw'
end
end Go.Abs
