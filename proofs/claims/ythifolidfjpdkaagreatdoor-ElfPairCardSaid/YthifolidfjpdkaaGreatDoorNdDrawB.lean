/- Towards regions in open order: the memory, whatever has been done. -/
import Derived.Test.YthifolidfjpdkaaGreatDoorNdDrawA
import Derived.Test.YthifolidfjpdkaaGreatDoorNdCode
import Derived.Orders
set_option linter.unusedVariables false
set_option linter.unusedSimpArgs false
namespace Go.Abs
noncomputable section
def Zp6 (B : Nat) (hT : Nat → H) (S : Nat → Prop) (k m : Nat) : Prop := (m = 0 ∧ k < (hT 0).next) ∨ ∃ j,m = j + 1 ∧ j < B ∧ S j ∧ (hT j).next ≤ k ∧ k < (hT (j + 1)).next
structure First (B : Nat) (l : List CO) (aT : Nat → AAct) (S : Nat → Prop) (u : Nat) : Prop where
  le : u ≤ B
  done : ∀ j,j < u → Yx l aT j → S j
  notyet : u < B → Yx l aT u ∧ ¬ S u
theorem First.ex (B : Nat) (l : List CO) (aT : Nat → AAct) (S : Nat → Prop) : ∃ u,First B l aT S u := by
  have h : ∀ m,(∀ j,j < m → Yx l aT j → S j) ∨ ∃ u,u < m ∧ (Yx l aT u ∧ ¬ S u) ∧ ∀ j,j < u → Yx l aT j → S j := by
    intro m
    induction m with
    | zero => exact .inl fun j hj => by omega
    | succ m ih =>
      rcases ih with ih | ⟨u,h1,h2,h3⟩
      · by_cases hm : Yx l aT m ∧ ¬ S m
        · exact .inr ⟨m,by omega,hm,ih⟩
        · refine .inl fun j hj hl => ?_
          by_cases e : j = m
          · subst e; exact Classical.byContradiction fun hs => hm ⟨hl,hs⟩
          · exact ih j (by omega) hl
      · exact .inr ⟨u,by omega,h2,h3⟩
  rcases h B with h | ⟨u,h1,h2,h3⟩
  · exact ⟨B,Nat.le_refl _,h,fun hh => absurd hh (Nat.lt_irrefl _)⟩
  · exact ⟨u,Nat.le_of_lt h1,h3,fun _ => h2⟩
structure MInv (ops : Array Oper) (B : Nat) (l : List CO) (aT : Nat → AAct) (hT : Nat → H) (S : Nat → Prop) (mem : Nat → Option AObj) : Prop where
  lt : ∀ j,S j → j < B
  closed : ∀ j,S j → ∀ i,i < j → Ya i (Yj ops j) = false → S i
  cov : ∀ u,First B l aT S u → ∀ k m,Zp6 B hT S k m → mem k = (hT (max u m)).mem.get k
  nocov : ∀ k,(∀ m,¬ Zp6 B hT S k m) → mem k = none
section
variable {P : Program} {glob : Nat → Option (List D)} {N : Nat} {E : Env} {call : Call} {ops : Array Oper} {B : Nat} {l : List CO} {aT : Nat → AAct} {hT : Nat → H} {rT : Nat → List Rec} {S : Nat → Prop} {mem : Nat → Option AObj} {i : Nat}
def Z12 (S : Nat → Prop) (i j : Nat) : Prop := S j ∨ j = i
theorem First.back (hn : ¬ Yx l aT i) {u : Nat} (h : First B l aT (Z12 S i) u) : First B l aT S u := by
  refine ⟨h.le,fun j hj hl => ?_,fun hu => ⟨(h.notyet hu).1,fun hs => (h.notyet hu).2 (.inl hs)⟩⟩
  rcases h.done j hj hl with h1 | rfl
  · exact h1
  · exact absurd hl hn
theorem Run.part (hR : Run P glob N E call ops B l aT hT rT) {i j k : Nat} (hi : i < B) (hj : j < B) (h1 : (hT i).next ≤ k) (h2 : k < (hT (i + 1)).next) (h3 : (hT j).next ≤ k) (h4 : k < (hT (j + 1)).next) : i = j := by
  rcases Nat.lt_trichotomy i j with h | h | h
  · have := hR.nx (i := i + 1) (j := j) h (by omega); omega
  · exact h
  · have := hR.nx (i := j + 1) (j := i) h (by omega); omega
theorem Run.first_le (hR : Run P glob N E call ops B l aT hT rT) {j : Nat} (hj : j ≤ B) : (hT 0).next ≤ (hT j).next := hR.nx (Nat.zero_le _) hj
theorem Run.made (hR : Run P glob N E call ops B l aT hT rT) {k : Nat} : ∀ {j : Nat},j ≤ B → k < (hT j).next → k < (hT 0).next ∨ ∃ m,m < j ∧ (hT m).next ≤ k ∧ k < (hT (m + 1)).next
  | 0,_,h => .inl h
  | j + 1,hj,h => by
    by_cases h1 : k < (hT j).next
    · rcases hR.made (j := j) (by omega) h1 with h2 | ⟨m,h2,h3⟩
      · exact .inl h2
      · exact .inr ⟨m,by omega,h3⟩
    · exact .inr ⟨j,by omega,by omega,h⟩
theorem Zp6.mono {S' : Nat → Prop} (h : ∀ j,S j → S' j) {k m : Nat} (hc : Zp6 B hT S k m) : Zp6 B hT S' k m := by
  rcases hc with hc | ⟨j,h1,h2,h3,h4⟩
  · exact .inl hc
  · exact .inr ⟨j,h1,h2,h _ h3,h4⟩
theorem Zp6.add (hi : i < B) {k m : Nat} (hc : Zp6 B hT (Z12 S i) k m) : Zp6 B hT S k m ∨ (m = i + 1 ∧ (hT i).next ≤ k ∧ k < (hT (i + 1)).next) := by
  rcases hc with hc | ⟨j,h1,h2,h3 | rfl,h4⟩
  · exact .inl (.inl hc)
  · exact .inl (.inr ⟨j,h1,h2,h3,h4⟩)
  · exact .inr ⟨h1,h4⟩
theorem Run.notin (hR : Run P glob N E call ops B l aT hT rT) (hi : i < B) (hS : ¬ S i) {k m : Nat} (hc : Zp6 B hT S k m) : ¬ ((hT i).next ≤ k ∧ k < (hT (i + 1)).next) := by
  rintro ⟨h1,h2⟩
  rcases hc with ⟨_,h3⟩ | ⟨j,_,h3,h4,h5,h6⟩
  · have := hR.first_le (j := i) (by omega); omega
  · have := hR.part hi h3 h1 h2 h5 h6; subst this; exact hS h4
theorem Run.open (hR : Run P glob N E call ops B l aT hT rT) {i j : Nat} {x y : CO} (hij : i < j) (hj : j < B) (hx : l[i]? = some x) (hy : l[j]? = some y) (hm : Ya i (Yj ops j) = true) : Wn (Zq x.op) (Zq y.op) = true ∧ Zh7 x y = true :=
  (hR.pair i j x y (ops[j]'(Nat.lt_of_lt_of_le hj hR.bnd)) hij hx hy (by simp [Nat.lt_of_lt_of_le hj hR.bnd])).1 hm
theorem MInv.opens (hI : MInv ops B l aT hT S mem) (hS : ¬ S i) {k : Nat} (hk : S k) (hik : i < k) : Ya i (Yj ops k) = true := by
  cases h : Ya i (Yj ops k) with
  | true => rfl
  | false => exact absurd (hI.closed k hk i hik h) hS
theorem Zjm (mem : Nat → Option AObj) (K : H) (h : ∀ k o,K.mem.get k = some o → mem k = some o) (k : Nat) : UE mem K K k = mem k := by
  unfold UE
  cases hk : K.mem.get k with
  | none => rfl
  | some o => simp only; exact (h k o hk).symm
structure After (ops : Array Oper) (B : Nat) (l : List CO) (aT : Nat → AAct) (hT : Nat → H) (E : Env) (call : Call) (S : Nat → Prop) (mem : Nat → Option AObj) (i : Nat) (c : CO) (K K' : H) (d : D) : Prop where
  k1 : K.next = (hT i).next
  k2 : K'.next = (hT (i + 1)).next
  run : Vh c.op E call (aT i) K = .ok d K'
  act : aT (i + 1) = (aT i).put c.dst d
  dom : Zrt K
  sub : ∀ k o,K.mem.get k = some o → mem k = some o
  inv : MInv ops B l aT hT (Z12 S i) (UE mem K K')
theorem MInv.addLt (hI : MInv ops B l aT hT S mem) (hi : i < B) : ∀ j,Z12 S i j → j < B := fun j hj => hj.elim (hI.lt j) fun e => by omega
theorem MInv.addClosed (hI : MInv ops B l aT hT S mem) (hready : ∀ k,k < i → Ya k (Yj ops i) = false → S k) : ∀ j,Z12 S i j → ∀ k,k < j → Ya k (Yj ops j) = false → Z12 S i k := by
  rintro j (hj | rfl) k hk hm
  · exact .inl (hI.closed j hj k hk hm)
  · exact .inl (hready k hk hm)
theorem MInv.still (hR : Run P glob N E call ops B l aT hT rT) (hI : MInv ops B l aT hT S mem) (hi : i < B) (hready : ∀ k,k < i → Ya k (Yj ops i) = false → S k) (hn : ¬ Yx l aT i) (hh : (hT (i + 1)).next = (hT i).next)
    {mem' : Nat → Option AObj} (hmem : ∀ k,mem' k = mem k) : MInv ops B l aT hT (Z12 S i) mem' := by
  refine ⟨hI.addLt hi,hI.addClosed hready,fun u hu k m hc => ?_,fun k hk => ?_⟩
  · rw [hmem k]
    rcases hc.add hi with h | ⟨_,h1,h2⟩
    · exact hI.cov u (hu.back hn) k m h
    · omega
  · rw [hmem k]; exact hI.nocov k fun m hc => hk m (hc.mono fun j => .inl)
theorem MInv.pure (hR : Run P glob N E call ops B l aT hT rT) (hI : MInv ops B l aT hT S mem) (hi : i < B) (hready : ∀ k,k < i → Ya k (Yj ops i) = false → S k) {c : CO} (hc : l[i]? = some c) {d : D} (hk : Zq c.op = .pure)
    (hrun : Vh c.op E call (aT i) (hT i) = .ok d (hT (i + 1))) (hact : aT (i + 1) = (aT i).put c.dst d) : ∃ K K',After ops B l aT hT E call S mem i c K K' d := by
  obtain ⟨K',k1,k2,k3,k4,k5⟩ := Zfy (.inl hk) hrun
  have hh : hT (i + 1) = hT i := k4 hk
  have hn : ¬ Yx l aT i := fun ⟨c',h1,_,h2⟩ => by rw [hc] at h1; cases h1; rw [Vu (.inl hk)] at h2; cases h2
  have hK' : ∀ k,K'.mem.get k = none := fun k => by
    cases hg : K'.mem.get k with
    | none => rfl
    | some o => have := k3 k o hg; rw [hh] at this; omega
  refine ⟨⟨(hT i).next,.nil⟩,K',rfl,by rw [k2],k1,hact,fun k _ => rfl,fun k o h => (by rw [show (Tr.nil : Tr AObj).get k = none from rfl] at h; cases h), ?_⟩
  refine hI.still hR hi hready hn (by rw [hh]) fun k => ?_
  unfold UE
  rw [hK' k]
  rfl
theorem MInv.alloc (hR : Run P glob N E call ops B l aT hT rT) (hD : Zrt (hT 0)) (hI : MInv ops B l aT hT S mem) (hi : i < B) (hS : ¬ S i) (hready : ∀ k,k < i → Ya k (Yj ops i) = false → S k) {c : CO} (hc : l[i]? = some c) {d : D} (hk : Zq c.op = .alloc)
    (hrun : Vh c.op E call (aT i) (hT i) = .ok d (hT (i + 1))) (hact : aT (i + 1) = (aT i).put c.dst d) : ∃ K K',After ops B l aT hT E call S mem i c K K' d := by
  obtain ⟨K',k1,k2,k3,k4,k5⟩ := Zfy (.inr hk) hrun
  have hn : ¬ Yx l aT i := fun ⟨c',h1,_,h2⟩ => by rw [hc] at h1; cases h1; rw [Vu (.inr (.inl hk))] at h2; cases h2
  refine ⟨⟨(hT i).next,.nil⟩,K',rfl,by rw [k2],k1,hact,fun k _ => rfl,fun k o h => (by rw [show (Tr.nil : Tr AObj).get k = none from rfl] at h; cases h), ?_⟩
  have hmg : ∀ k,UE mem ⟨(hT i).next,.nil⟩ K' k = match K'.mem.get k with
      | some o => some o
      | none => mem k := fun k => by unfold UE; cases K'.mem.get k <;> rfl
  have hnew : ∀ k,(hT i).next ≤ k → k < (hT (i + 1)).next → UE mem ⟨(hT i).next,.nil⟩ K' k = (hT (i + 1)).mem.get k := fun k h1 h2 => by
    rw [hmg,k5 k,hR.dom hD (Nat.le_of_lt hi) k h1,hI.nocov k fun m hcv => hR.notin hi hS hcv ⟨h1,h2⟩]
    cases K'.mem.get k <;> rfl
  refine ⟨hI.addLt hi,hI.addClosed hready,fun u hu k m hcv => ?_,fun k hk => ?_⟩
  · rcases hcv.add hi with h | ⟨rfl,h1,h2⟩
    · have hno : K'.mem.get k = none := by
        cases hg : K'.mem.get k with
        | none => rfl
        | some o => exact absurd (k3 k o hg) (hR.notin hi hS h)
      rw [hmg,hno]
      exact hI.cov u (hu.back hn) k m h
    · rw [hnew k h1 h2]
      have hu' := hu.back hn
      have hle := hu'.le
      refine (hR.quiet (Nat.le_max_right u (i + 1)) (by omega) (fun j h3 h4 hl => ?_) h2).symm
      have hju : j < u := by omega
      have hSj := hu'.done j hju hl
      obtain ⟨cj,hcj,_,hlj⟩ := hl
      exact Zcu (hR.open (by omega) (hI.lt j hSj) hc hcj (hI.opens hS hSj (by omega))).1 hk hlj
  · rw [hmg]
    have h1 : ¬ ((hT i).next ≤ k ∧ k < (hT (i + 1)).next) := fun h => hk (i + 1) (.inr ⟨i,rfl,hi,.inr rfl,h⟩)
    cases hg : K'.mem.get k with
    | none => exact hI.nocov k fun m hcv => hk m (hcv.mono fun j => .inl)
    | some o => exact absurd (k3 k o hg) h1
theorem MInv.loud (hR : Run P glob N E call ops B l aT hT rT) (hD : Zrt (hT 0)) (hI : MInv ops B l aT hT S mem) (hi : i < B) (hS : ¬ S i) (hready : ∀ k,k < i → Ya k (Yj ops i) = false → S k) {c : CO} (hc : l[i]? = some c) {d : D} (hw : Zn (aT i) c = true) (hk : Y8 c.op = true)
    (hrun : Vh c.op E call (aT i) (hT i) = .ok d (hT (i + 1))) (hact : aT (i + 1) = (aT i).put c.dst d) : ∃ K K',After ops B l aT hT E call S mem i c K K' d := by
  have hLi : Yx l aT i := ⟨c,hc,hw,hk⟩
  have hDi := hR.dom hD (Nat.le_of_lt hi)
  have hDi' := hR.dom hD (j := i + 1) hi
  have hstep := hR.nx (i := i) (j := i + 1) (Nat.le_succ _) hi
  -- what is loud and ahead is done
  have hahead : ∀ k,k < i → Yx l aT k → S k := fun k hki hl => by
    cases hm : Ya k (Yj ops i) with
    | false => exact hready k hki hm
    | true =>
      obtain ⟨ck,hck,_,hlk⟩ := hl
      exact (VS (hR.open hki hi hck hc hm).1 hlk hk).elim
  have hfi : First B l aT S i := ⟨Nat.le_of_lt hi,hahead,fun _ => ⟨hLi,hS⟩⟩
  -- what is loud and behind is not done
  have hbehind : ∀ k,i < k → Yx l aT k → ¬ S k := fun k hik hl hs => by
    obtain ⟨ck,hck,_,hlk⟩ := hl
    exact VS (hR.open hik (hI.lt k hs) hc hck (hI.opens hS hs hik)).1 hk hlk
  -- who Z4c names ahead is done
  have hmk : ∀ k,k < (hT i).next → ∃ m,m ≤ i ∧ Zp6 B hT S k m := fun k hk1 => by
    rcases hR.made (Nat.le_of_lt hi) hk1 with h | ⟨m,hm,h1,h2⟩
    · exact ⟨0,Nat.zero_le _,.inl ⟨rfl,h⟩⟩
    · refine ⟨m + 1,hm,.inr ⟨m,rfl,by omega, ?_,h1,h2⟩⟩
      rcases hR.maker (by omega) (Nat.lt_of_le_of_lt h1 h2) with h3 | ⟨cm,hcm,h3⟩
      · exact hahead m hm h3
      · cases hmm : Ya m (Yj ops i) with
        | false => exact hready m hm hmm
        | true => exact (Zcu (hR.open hm hi hcm hc hmm).1 h3 hk).elim
  have hold : ∀ k,k < (hT i).next → mem k = (hT i).mem.get k := fun k hk1 => by
    obtain ⟨m,hm,hcv⟩ := hmk k hk1
    rw [hI.cov i hfi k m hcv,Nat.max_eq_left hm]
  have hsub : ∀ k o,(hT i).mem.get k = some o → mem k = some o := fun k o ho => by
    have : k < (hT i).next := Nat.lt_of_not_le fun hq => by rw [hDi k hq] at ho; cases ho
    rw [hold k this,ho]
  refine ⟨hT i,hT (i + 1),rfl,rfl,hrun,hact,hDi,hsub, ?_⟩
  have hnew : ∀ k,k < (hT (i + 1)).next → UE mem (hT i) (hT (i + 1)) k = (hT (i + 1)).mem.get k := fun k hk1 => by
    unfold UE
    cases hg : (hT (i + 1)).mem.get k with
    | some o => rfl
    | none =>
      simp only
      cases hg2 : (hT i).mem.get k with
      | some o => rfl
      | none =>
        simp only
        by_cases hk2 : k < (hT i).next
        · rw [hold k hk2,hg2]
        · exact hI.nocov k fun m hcv => hR.notin hi hS hcv ⟨by omega,hk1⟩
  have hfar : ∀ k,(hT (i + 1)).next ≤ k → UE mem (hT i) (hT (i + 1)) k = mem k := fun k hk1 => by
    unfold UE
    rw [hDi' k hk1,hDi k (by omega)]
  refine ⟨hI.addLt hi,hI.addClosed hready,fun u hu k m hcv => ?_,fun k hk1 => ?_⟩
  · have hule := hu.le
    have hiu : i < u := by
      rcases Nat.lt_trichotomy u i with h | h | h
      · have h1 := hu.notyet (by omega)
        exact absurd (.inl (hahead u h h1.1)) h1.2
      · have h1 := hu.notyet (by omega)
        exact absurd (.inr h) h1.2
      · exact h
    have hqu : ∀ j,i < j → j < u → ¬ Yx l aT j := fun j h1 h2 hl => by
      rcases hu.done j h2 hl with h3 | h3
      · exact hbehind j h1 hl h3
      · omega
    have hm : m ≤ B := by
      rcases hcv with ⟨h,_⟩ | ⟨j,h,hj,_⟩ <;> omega
    by_cases hk1 : k < (hT (i + 1)).next
    · rw [hnew k hk1]
      have hmi : m ≤ i + 1 := by
        rcases hcv with ⟨h,_⟩ | ⟨j,h,hj,_,h5,h6⟩
        · omega
        · refine Nat.le_of_not_lt fun hq => ?_
          have := hR.nx (i := i + 1) (j := j) (by omega) (by omega)
          omega
      refine (hR.quiet (i := i + 1) (j := max u m) (by omega) (by omega) (fun j h3 h4 => hqu j (by omega) (by omega)) hk1).symm
    · rw [hfar k (by omega)]
      rcases hcv.add hi with h | ⟨_,h1,h2⟩
      · rw [hI.cov i hfi k m h]
        obtain ⟨j,rfl,hj,hSj,h5,h6⟩ : ∃ j,m = j + 1 ∧ j < B ∧ S j ∧ (hT j).next ≤ k ∧ k < (hT (j + 1)).next := by
          rcases h with ⟨_,h⟩ | h
          · have := hR.first_le (j := i) (by omega); omega
          · exact h
        have hij : i < j := by
          refine Nat.lt_of_not_le fun hq => ?_
          have := hR.nx (i := j + 1) (j := i + 1) (by omega) hi
          omega
        rw [Nat.max_eq_right (by omega : i ≤ j + 1)]
        refine (hR.quiet (i := j + 1) (j := max u (j + 1)) (by omega) (by omega) (fun q h3 h4 => hqu q (by omega) (by omega)) h6).symm
      · omega
  · have h1 : ¬ ((hT i).next ≤ k ∧ k < (hT (i + 1)).next) := fun h => hk1 (i + 1) (.inr ⟨i,rfl,hi,.inr rfl,h⟩)
    have h2 : mem k = none := hI.nocov k fun m hcv => hk1 m (hcv.mono fun j => .inl)
    by_cases h3 : (hT (i + 1)).next ≤ k
    · rw [hfar k h3,h2]
    · have h4 : k < (hT i).next := by omega
      obtain ⟨m,_,hcv⟩ := hmk k h4
      exact absurd (hcv.mono fun j => .inl) (hk1 m)
theorem MInv.reads (hR : Run P glob N E call ops B l aT hT rT) (hD : Zrt (hT 0)) (hI : MInv ops B l aT hT S mem) (hi : i < B) (hS : ¬ S i) (hready : ∀ k,k < i → Ya k (Yj ops i) = false → S k) {c : CO} (hc : l[i]? = some c) {d : D} (hk : Zq c.op = .reads)
    (hrun : Vh c.op E call (aT i) (hT i) = .ok d (hT (i + 1))) (hact : aT (i + 1) = (aT i).put c.dst d) : ∃ K K',After ops B l aT hT E call S mem i c K K' d := by
  have hh : hT (i + 1) = hT i := Vf (.inr (.inl hk)) hrun
  have hn : ¬ Yx l aT i := fun ⟨c',h1,_,h2⟩ => by rw [hc] at h1; cases h1; rw [Vu (.inr (.inr (.inr hk)))] at h2; cases h2
  have hDi := hR.dom hD (Nat.le_of_lt hi)
  have hahead : ∀ k,k < i → Yx l aT k → S k := fun k hki hl => by
    cases hm : Ya k (Yj ops i) with
    | false => exact hready k hki hm
    | true =>
      obtain ⟨ck,hck,_,hlk⟩ := hl
      exact (Zmx (hR.open hki hi hck hc hm).1 hlk hk).elim
  have hbehind : ∀ k,i < k → Yx l aT k → ¬ S k := fun k hik hl hs => by
    obtain ⟨ck,hck,_,hlk⟩ := hl
    exact Zmw (hR.open hik (hI.lt k hs) hc hck (hI.opens hS hs hik)).1 hk hlk
  obtain ⟨u,hu⟩ := First.ex B l aT S
  have hule := hu.le
  have hiu : i ≤ u := Nat.le_of_not_lt fun hq => by
    have h1 := hu.notyet (by omega)
    exact h1.2 (hahead u hq h1.1)
  have hold : ∀ k,k < (hT i).next → mem k = (hT i).mem.get k := fun k hk1 => by
    have hq : ∀ m,m ≤ i → Zp6 B hT S k m → mem k = (hT i).mem.get k := fun m hm hcv => by
      rw [hI.cov u hu k m hcv]
      refine hR.quiet (by omega) (by omega) (fun j h1 h2 hl => ?_) hk1
      by_cases e : j = i
      · subst e; exact hn hl
      · exact hbehind j (by omega) hl (hu.done j (by omega) hl)
    rcases hR.made (Nat.le_of_lt hi) hk1 with h | ⟨m,hm,h1,h2⟩
    · exact hq 0 (Nat.zero_le _) (.inl ⟨rfl,h⟩)
    · refine hq (m + 1) hm (.inr ⟨m,rfl,by omega, ?_,h1,h2⟩)
      rcases hR.maker (by omega) (Nat.lt_of_le_of_lt h1 h2) with h3 | ⟨cm,hcm,h3⟩
      · exact hahead m hm h3
      · cases hmm : Ya m (Yj ops i) with
        | false => exact hready m hm hmm
        | true => exact (Zln (hR.open hm hi hcm hc hmm).1 h3 hk).elim
  have hsub : ∀ k o,(hT i).mem.get k = some o → mem k = some o := fun k o ho => by
    have : k < (hT i).next := Nat.lt_of_not_le fun hq => by rw [hDi k hq] at ho; cases ho
    rw [hold k this,ho]
  refine ⟨hT i,hT i,rfl,by rw [hh],by rw [hh] at hrun; exact hrun,hact,hDi,hsub, ?_⟩
  exact hI.still hR hi hready hn (by rw [hh]) (Zjm mem _ hsub)
theorem Z83 {c : COp} {E : Env} {call : Call} {a : AAct} {h h' : H} {d : D} (hk : Zq c = .mreads) (hrun : Vh c E call a h = .ok d h') :
    (∀ K : H,Vh c E call a K = .ok d K) ∨ ∃ k es,h.mem.get k = some (.map es) ∧ ∀ K : H,K.mem.get k = some (.map es) → Vh c E call a K = .ok d K := by
  cases c <;> simp only [Zq,reduceCtorEq] at hk
  case look fl z x k ok =>
    simp only [Vh,U7,Bool.cond_eq_ite] at hrun ⊢
    split at hrun
    · rename_i hko
      simp only [hko,if_true]
      split at hrun
      · rename_i es hes
        split at hes
        · rename_i hx
          cases hes
          refine .inl fun K => ?_
          split at hrun <;> cases hrun
          · rename_i hf; simp only [hf]
          · rename_i hf; simp only [hf]
        · rename_i l hx
          split at hes
          · rename_i es' hl
            cases hes
            refine .inr ⟨l,es,hl,fun K hK => ?_⟩
            simp only [hK]
            split at hrun <;> cases hrun
            · rename_i hf; simp only [hf]
            · rename_i hf; simp only [hf]
          · cases hes
        · cases hes
      · cases hrun
    · cases hrun
  case lookV kt z x k ok =>
    simp only [Vh,Zb9] at hrun ⊢
    split at hrun
    · rename_i kv es hkv hes
      unfold Zu0 at hes
      split at hes
      · rename_i hx
        cases hes
        refine .inl fun K => ?_
        simp only [hkv,hx,Zu0]
        split at hrun <;> cases hrun
        · rename_i h1 h2; simp only [h1,h2]
        · rename_i h1 h2; simp only [h1,h2]
      · rename_i l hx
        split at hes
        · rename_i es' hl
          cases hes
          refine .inr ⟨l,es,hl,fun K hK => ?_⟩
          simp only [hkv,hx,Zu0,hK]
          split at hrun <;> cases hrun
          · rename_i h1 h2; simp only [h1,h2]
          · rename_i h1 h2; simp only [h1,h2]
        · cases hes
      · cases hes
    · cases hrun
  case lenm x =>
    simp only [Vh,Zfa] at hrun ⊢
    split at hrun
    · rename_i l hx
      split at hrun
      · rename_i es hl
        cases hrun
        exact .inr ⟨l,es,hl,fun K hK => by simp only [hK]⟩
      · cases hrun
    · cases hrun
theorem Zs6 {c : COp} {E : Env} {call : Call} {a : AAct} {h h' : H} {d : D} (hk : Zq c = .sto) (hrun : Vh c E call a h = .ok d h') :
    h'.next = h.next ∧ ∀ k es,h'.mem.get k = some (.map es) ↔ h.mem.get k = some (.map es) := by
  cases c <;> simp only [Zq,reduceCtorEq] at hk
  case st n x y =>
    simp only [Vh,Zpx] at hrun
    split at hrun
    · rename_i h1 hs
      cases hrun
      unfold Zjb at hs
      split at hs
      · rename_i l off hx
        split at hs
        · rename_i ty cs hl
          simp only [Bool.cond_eq_ite] at hs
          split at hs
          · split at hs
            · cases hs
              refine ⟨rfl,fun k es => ?_⟩
              simp only [H.put,Tr.get_set]
              split
              · rename_i e
                subst e
                rw [hl]
                constructor <;> intro hh <;> cases hh
              · exact Iff.rfl
            · cases hs
          · cases hs
        · cases hs
      · cases hs
    · cases hrun
theorem Run.stepSto (hR : Run P glob N E call ops B l aT hT rT) {j : Nat} (hj : j < B) {c : CO} (hc : l[j]? = some c) (hk : Zq c.op = .sto) : (hT (j + 1)).next = (hT j).next ∧ ∀ k es,(hT (j + 1)).mem.get k = some (.map es) ↔ (hT j).mem.get k = some (.map es) := by
  cases hR.step j c hj hc with
  | skip _ _ e _ => rw [e]; exact ⟨rfl,fun _ _ => Iff.rfl⟩
  | read d x n cs _ h1 => exact Zs6 hk h1
  | loud d _ h1 => exact Zs6 hk h1
  | quiet d _ h1 => exact Zs6 hk h1
theorem Run.maps (hR : Run P glob N E call ops B l aT hT rT) {i k : Nat} {es : List (D × D)} : ∀ {j : Nat},i ≤ j → j ≤ B → (∀ m,i ≤ m → m < j → ∀ c,l[m]? = some c → Yx l aT m → Zq c.op = .sto) → k < (hT i).next → ((hT j).mem.get k = some (.map es) ↔ (hT i).mem.get k = some (.map es))
  | 0,hij,_,_,hk => by
    have : i = 0 := by omega
    subst this
    exact Iff.rfl
  | j + 1,hij,hj,hn,hk => by
    by_cases e : i = j + 1
    · subst e; exact Iff.rfl
    · have ih := hR.maps (j := j) (by omega) (by omega) (fun m h1 h2 => hn m h1 (by omega)) hk (es := es)
      obtain ⟨o,gd,q,h1,h2,_⟩ := hR.at (show j < B by omega)
      by_cases hl : Yx l aT j
      · exact ((hR.stepSto (by omega) h2 (hn j (by omega) (by omega) _ h2 hl)).2 k es).trans ih
      · rw [hR.quiet1 (by omega) hl (Nat.lt_of_lt_of_le hk (hR.nx (by omega) (by omega)))]
        exact ih
theorem MInv.mreads (hR : Run P glob N E call ops B l aT hT rT) (hD : Zrt (hT 0)) (hI : MInv ops B l aT hT S mem) (hi : i < B) (hS : ¬ S i) (hready : ∀ k,k < i → Ya k (Yj ops i) = false → S k) {c : CO} (hc : l[i]? = some c) {d : D} (hk : Zq c.op = .mreads)
    (hrun : Vh c.op E call (aT i) (hT i) = .ok d (hT (i + 1))) (hact : aT (i + 1) = (aT i).put c.dst d) : ∃ K K',After ops B l aT hT E call S mem i c K K' d := by
  have hh : hT (i + 1) = hT i := Vf (.inr (.inr hk)) hrun
  have hn : ¬ Yx l aT i := fun ⟨c',h1,_,h2⟩ => by rw [hc] at h1; cases h1; rw [Zow hk] at h2; cases h2
  have hDi := hR.dom hD (Nat.le_of_lt hi)
  have fin : ∀ K : H,K.next = (hT i).next → Zrt K → Vh c.op E call (aT i) K = .ok d K → (∀ k o,K.mem.get k = some o → mem k = some o) → ∃ K K',After ops B l aT hT E call S mem i c K K' d := fun K k1 k2 k3 k4 =>
    ⟨K,K,k1,by rw [hh]; exact k1,k3,hact,k2,k4,hI.still hR hi hready hn (by rw [hh]) (Zjm mem K k4)⟩
  rcases Z83 hk hrun with hK | ⟨l0,es,hl0,hK⟩
  · exact fin ⟨(hT i).next,.nil⟩ rfl (fun k _ => Tr.get_nil k) (hK _) (fun k o ho => by
      have : (Tr.nil : Tr AObj).get k = some o := ho
      rw [Tr.get_nil] at this
      cases this)
  have hlt : l0 < (hT i).next := Nat.lt_of_not_le fun hq => by rw [hDi l0 hq] at hl0; cases hl0
  -- the first loud one that is not done
  obtain ⟨u,hu⟩ := First.ex B l aT S
  have hule := hu.le
  have openAhead : ∀ k ck,k < i → l[k]? = some ck → Yx l aT k → ¬ S k → Zq ck.op = .sto := fun k ck hki hck hl hs => by
    obtain ⟨ck',hck',_,hlk⟩ := hl
    rw [hck] at hck'
    cases hck'
    cases hm : Ya k (Yj ops i) with
    | false => exact absurd (hready k hki hm) hs
    | true => exact Zlm (hR.open hki hi hck hc hm).1 hlk hk
  have openBehind : ∀ k ck,i < k → l[k]? = some ck → Yx l aT k → S k → Zq ck.op = .sto := fun k ck hik hck hl hs => by
    obtain ⟨ck',hck',_,hlk⟩ := hl
    rw [hck] at hck'
    cases hck'
    exact Zll (hR.open hik (hI.lt k hs) hc hck (hI.opens hS hs hik)).1 hk hlk
  have undone : ∀ k,u ≤ k → k < B → Yx l aT k → ¬ S k := fun k huk hk2 hl hs => by
    have hnu := hu.notyet (by omega)
    by_cases e : k = u
    · subst e; exact hnu.2 hs
    · obtain ⟨cu,hcu,_,hlu⟩ := hnu.1
      obtain ⟨ck,hck,_,hlk⟩ := hl
      exact VS (hR.open (i := u) (j := k) (by omega) hk2 hcu hck (hI.opens hnu.2 hs (by omega))).1 hlu hlk
  have hcovd : ∀ m,m ≤ i → Zp6 B hT S l0 m → mem l0 = some (.map es) := fun m hm hcv => by
    rw [hI.cov u hu l0 m hcv]
    by_cases hmu : max u m ≤ i
    · have hl1 : l0 < (hT (max u m)).next := by
        rcases hcv with ⟨h1,h2⟩ | ⟨j,h1,h2,_,_,h5⟩
        · exact Nat.lt_of_lt_of_le h2 (hR.nx (Nat.zero_le _) (by omega))
        · exact Nat.lt_of_lt_of_le h5 (hR.nx (by omega) (by omega))
      refine (hR.maps hmu (Nat.le_of_lt hi) (fun k h1 h2 ck hck hl => ?_) hl1).1 hl0
      exact openAhead k ck h2 hck hl (undone k (by omega) (by omega) hl)
    · refine (hR.maps (show i ≤ max u m by omega) (by omega) (fun k h1 h2 ck hck hl => ?_) hlt).2 hl0
      by_cases e : k = i
      · subst e; exact absurd hl hn
      · exact openBehind k ck (by omega) hck hl (hu.done k (by omega) hl)
  have hmem : mem l0 = some (.map es) := by
    rcases hR.made (Nat.le_of_lt hi) hlt with h | ⟨m,hm,h1,h2⟩
    · exact hcovd 0 (Nat.zero_le _) (.inl ⟨rfl,h⟩)
    · refine hcovd (m + 1) hm (.inr ⟨m,rfl,by omega, ?_,h1,h2⟩)
      rcases hR.maker (by omega) (Nat.lt_of_le_of_lt h1 h2) with h3 | ⟨cm,hcm,h3⟩
      · refine Classical.byContradiction fun hs => ?_
        obtain ⟨cm,hcm,_,_⟩ := id h3
        have := (hR.stepSto (by omega) hcm (openAhead m cm hm hcm h3 hs)).1
        omega
      · cases hmm : Ya m (Yj ops i) with
        | false => exact hready m hm hmm
        | true => exact (Zkd (hR.open hm hi hcm hc hmm).1 h3 hk).elim
  refine fin ⟨(hT i).next,Tr.nil.set l0 (some (.map es))⟩ rfl (fun k hk2 => ?_) (hK _ (by simp only [Tr.get_set,if_true])) (fun k o ho => ?_)
  · show (Tr.nil.set l0 (some (AObj.map es))).get k = none
    have hk2 : (hT i).next ≤ k := hk2
    rw [Tr.get_set,if_neg (by omega),Tr.get_nil]
  · have ho2 : (Tr.nil.set l0 (some (AObj.map es))).get k = some o := ho
    clear ho
    rw [Tr.get_set,Tr.get_nil] at ho2
    by_cases e : k = l0
    · rw [if_pos e] at ho2
      rw [e,hmem,ho2]
    · rw [if_neg e] at ho2
      cases ho2
theorem MInv.load (hR : Run P glob N E call ops B l aT hT rT) (hD : Zrt (hT 0)) (hI : MInv ops B l aT hT S mem) (hi : i < B) (hS : ¬ S i) (hready : ∀ k,k < i → Ya k (Yj ops i) = false → S k) {c : CO} (hc : l[i]? = some c) {d : D} (hw : Zn (aT i) c = true) (hk : Zq c.op = .load)
    (hrun : Vh c.op E call (aT i) (hT i) = .ok d (hT (i + 1))) (hact : aT (i + 1) = (aT i).put c.dst d) (hcov : ∀ k off n,YA (aT i) c.op = some (.ptr k off,n) → ∃ m,Zp6 B hT S k m) : ∃ K K',After ops B l aT hT E call S mem i c K K' d := by
  have hh : hT (i + 1) = hT i := Vf (.inl hk) hrun
  have hn : ¬ Yx l aT i := fun ⟨c',h1,_,h2⟩ => by rw [hc] at h1; cases h1; rw [Vu (.inr (.inr (.inl hk)))] at h2; cases h2
  have hDi := hR.dom hD (Nat.le_of_lt hi)
  obtain ⟨x,n,hrd,hload⟩ := Zw6 (aT i) hk
  have hcs : ∃ cs,Z3 (hT i) x n = some cs := by
    cases hR.step i c (by omega) hc with
    | skip hw' => rw [hw] at hw'; cases hw'
    | read d y n' cs _ _ _ hrd' hcs => rw [hrd] at hrd'; cases hrd'; exact ⟨cs,hcs⟩
    | loud d _ _ _ hrd' => rw [hrd] at hrd'; cases hrd'
    | quiet d _ _ _ hrd' => rw [hrd] at hrd'; cases hrd'
  obtain ⟨cs,hcs⟩ := hcs
  rw [hh] at hrun
  have fin : ∀ K : H,K.next = (hT i).next → Zrt K → (∀ k o,K.mem.get k = some o → mem k = some o) → Z3 K x n = some cs → ∃ K K',After ops B l aT hT E call S mem i c K K' d := fun K h1 h2 h3 h4 =>
    ⟨K,K,h1,by rw [h1,hh],hload E call K (hT i) cs d h4 hcs hrun,hact,h2,h3,hI.still hR hi hready hn (by rw [hh]) (Zjm mem _ h3)⟩
  by_cases hx : ∃ k off,x = .ptr k off
  · obtain ⟨k,off,rfl⟩ := hx
    have hki : k < (hT i).next := Nat.lt_of_not_le fun hq => by
      simp only [Z3,hDi k hq] at hcs; cases hcs
    obtain ⟨m,hcv⟩ := hcov k off n hrd
    have hmi : m ≤ i := by
      rcases hcv with ⟨h,_⟩ | ⟨j,h,hj,_,h5,h6⟩
      · omega
      · refine Nat.le_of_not_lt fun hq => ?_
        have := hR.nx (i := i) (j := j) (by omega) (by omega)
        omega
    have hkm : k < (hT m).next := by
      rcases hcv with ⟨h,h2⟩ | ⟨j,h,hj,_,h5,h6⟩
      · subst h; exact h2
      · subst h; exact h6
    obtain ⟨u,hu⟩ := First.ex B l aT S
    have hule := hu.le
    have hmem := hI.cov u hu k m hcv
    -- the same cells where the memory stands
    have hsame : Z3 (hT (max u m)) (.ptr k off) n = some cs := by
      have hcong : ∀ a b,(hT a).mem.get k = (hT b).mem.get k → Z3 (hT a) (.ptr k off) n = Z3 (hT b) (.ptr k off) n := fun a b e => by simp only [Z3,e]
      by_cases hiu : i < u
      · rw [Nat.max_eq_left (by omega)]
        -- the last loud one below u,if any
        have hlast : ∀ v,i ≤ v → v ≤ u → Z3 (hT v) (.ptr k off) n = some cs := by
          intro v
          induction v with
          | zero => intro h1 _; have : i = 0 := by omega
                    subst this; exact hcs
          | succ v ih =>
            intro h1 h2
            by_cases e : i = v + 1
            · subst e; exact hcs
            · by_cases hl : Yx l aT v
              · have hvi : v ≠ i := fun e => by subst e; exact hn hl
                have hSv := hu.done v (by omega) hl
                obtain ⟨cs',r1,r2⟩ := hR.read_behind (i := i) (k := v) (by omega) (by omega) hl hc hw hrd (hI.opens hS hSv (by omega))
                rw [r1] at hcs; cases hcs; exact r2
              · rw [hcong (v + 1) v (hR.quiet1 (by omega) hl (Nat.lt_of_lt_of_le hki (hR.nx (by omega) (by omega)))),ih (by omega) (by omega)]
        exact hlast u (by omega) (Nat.le_refl _)
      · -- the first loud one from there,if any
        have hfirst : ∀ q v,v + q = i → max u m ≤ v → Z3 (hT v) (.ptr k off) n = some cs := by
          intro q
          induction q with
          | zero => intro v h1 h2; have : v = i := by omega
                    subst this; exact hcs
          | succ q ih =>
            intro v h1 h2
            by_cases hl : Yx l aT v
            · have hSv : ¬ S v := fun hs => by
                by_cases e : v = u
                · subst e; exact (hu.notyet (by omega)).2 hs
                · have h3 := hu.notyet (by omega)
                  obtain ⟨cu,hcu,_,hlu⟩ := h3.1
                  obtain ⟨cv,hcv',_,hlv⟩ := hl
                  exact VS (hR.open (i := u) (j := v) (by omega) (by omega) hcu hcv' (hI.opens h3.2 hs (by omega))).1 hlu hlv
              have hmm : Ya v (Yj ops i) = true := by
                cases h : Ya v (Yj ops i) with
                | true => rfl
                | false => exact absurd (hready v (by omega) h) hSv
              obtain ⟨cs',r1,r2⟩ := hR.read_before (by omega) hi hl hc hw hrd hmm
              rw [r1] at hcs; cases hcs; exact r2
            · rw [hcong v (v + 1) (hR.quiet1 (by omega) hl (Nat.lt_of_lt_of_le hkm (hR.nx (by omega) (by omega)))).symm,ih (v + 1) (by omega) (by omega)]
        exact hfirst (i - max u m) (max u m) (by omega) (Nat.le_refl _)
    cases ho : mem k with
    | none =>
      rw [ho] at hmem
      simp only [Z3,← hmem] at hsame; cases hsame
    | some o =>
      have hg : ∀ j,(Tr.set (.nil : Tr AObj) k (some o)).get j = if j = k then some o else none := fun j => by rw [Tr.get_set,Tr.get_nil]
      refine fin ⟨(hT i).next,Tr.set .nil k (some o)⟩ rfl (fun j hj => ?_) (fun j o' hj => ?_) ?_
      · have : j ≠ k := fun e => by subst e; exact absurd hki (Nat.not_lt.2 hj)
        show (Tr.set (.nil : Tr AObj) k (some o)).get j = none
        rw [hg,if_neg this]
      · have hj' : (Tr.set (.nil : Tr AObj) k (some o)).get j = some o' := hj
        rw [hg] at hj'
        split at hj'
        · rename_i e; subst e; rw [ho]; exact hj'
        · cases hj'
      · have e1 : (⟨(hT i).next,Tr.set .nil k (some o)⟩ : H).mem.get k = (hT (max u m)).mem.get k := by
          show (Tr.set (.nil : Tr AObj) k (some o)).get k = _
          rw [hg,if_pos rfl,← hmem,ho]
        rw [← hsame]
        simp only [Z3]
        rw [e1]
  · refine fin ⟨(hT i).next,.nil⟩ rfl (fun k _ => rfl) (fun k o h => by rw [show (Tr.nil : Tr AObj).get k = none from rfl] at h; cases h) ?_
    cases x <;> first | exact absurd ⟨_,_,rfl⟩ hx | exact hcs
theorem MInv.next (hR : Run P glob N E call ops B l aT hT rT) (hD : Zrt (hT 0)) (hI : MInv ops B l aT hT S mem) (hi : i < B) (hS : ¬ S i) (hready : ∀ k,k < i → Ya k (Yj ops i) = false → S k) {c : CO} (hc : l[i]? = some c) (hw : Zn (aT i) c = true)
    (hcov : ∀ k off n,YA (aT i) c.op = some (.ptr k off,n) → ∃ m,Zp6 B hT S k m) : ∃ K K' d,After ops B l aT hT E call S mem i c K K' d := by
  have hrun : ∃ d,Vh c.op E call (aT i) (hT i) = .ok d (hT (i + 1)) ∧ aT (i + 1) = (aT i).put c.dst d := by
    cases hR.step i c (by omega) hc with
    | skip hw' => rw [hw] at hw'; cases hw'
    | read d y n' cs _ h1 h2 => exact ⟨d,h1,h2⟩
    | loud d _ h1 h2 => exact ⟨d,h1,h2⟩
    | quiet d _ h1 h2 => exact ⟨d,h1,h2⟩
  obtain ⟨d,h1,h2⟩ := hrun
  rcases Zjp c.op with h | h | h | h | h | h
  · obtain ⟨K,K',h3⟩ := hI.loud hR hD hi hS hready hc hw h h1 h2; exact ⟨K,K',d,h3⟩
  · obtain ⟨K,K',h3⟩ := hI.pure hR hi hready hc h h1 h2; exact ⟨K,K',d,h3⟩
  · obtain ⟨K,K',h3⟩ := hI.alloc hR hD hi hS hready hc h h1 h2; exact ⟨K,K',d,h3⟩
  · obtain ⟨K,K',h3⟩ := hI.load hR hD hi hS hready hc hw h h1 h2 hcov; exact ⟨K,K',d,h3⟩
  · obtain ⟨K,K',h3⟩ := hI.reads hR hD hi hS hready hc h h1 h2; exact ⟨K,K',d,h3⟩
  · obtain ⟨K,K',h3⟩ := hI.mreads hR hD hi hS hready hc h h1 h2; exact ⟨K,K',d,h3⟩
theorem MInv.skip (hR : Run P glob N E call ops B l aT hT rT) (hI : MInv ops B l aT hT S mem) (hi : i < B) (hready : ∀ k,k < i → Ya k (Yj ops i) = false → S k) {c : CO} (hc : l[i]? = some c) (hw : Zn (aT i) c = false) : aT (i + 1) = (aT i).put c.dst ZD ∧ (hT (i + 1)).next = (hT i).next ∧ MInv ops B l aT hT (Z12 S i) mem := by
  have hn : ¬ Yx l aT i := fun ⟨c',h1,h2,_⟩ => by rw [hc] at h1; cases h1; rw [hw] at h2; cases h2
  cases hR.step i c (by omega) hc with
  | skip _ h1 h2 _ => exact ⟨h1,by rw [h2],hI.still hR hi hready hn (by rw [h2]) fun _ => rfl⟩
  | read d y n' cs hw' => rw [hw] at hw'; cases hw'
  | loud d hw' => rw [hw] at hw'; cases hw'
  | quiet d hw' => rw [hw] at hw'; cases hw'
end
end
end Go.Abs
namespace Go.Abs
noncomputable section
theorem Zos {i : Nat} : ∀ {l : List Nat},Ya i l = true ↔ i ∈ l
  | [] => by simp [Ya]
  | j :: r => by
    simp only [Ya,Bool.or_eq_true,List.mem_cons]
    rw [Zos]
    refine or_congr ⟨fun h => Nat.eq_of_beq_eq_true h,fun h => by subst h; simp⟩ Iff.rfl
theorem Zgl {t : Nat} : ∀ {xs : List Opd},Opd.t t ∈ xs → t ∈ Zoj xs
  | [],h => by simp at h
  | x :: xs,h => by
    simp only [List.mem_cons] at h
    rcases h with rfl | h
    · simp [Zoj]
    · cases x with
      | t n => exact List.mem_cons_of_mem _ (Zgl h)
      | d v => exact Zgl (xs := xs) h
theorem AAct.eval_put_same (a : AAct) (t : Nat) (d : D) : (a.put (some t) d).eval (.t t) = d := by
  simp [AAct.put,AAct.eval,Tr.get_set]
theorem AAct.eval_put_ne (a : AAct) {dst : Option Nat} {t : Nat} (h : dst ≠ some t) (d : D) : (a.put dst d).eval (.t t) = a.eval (.t t) := by
  cases dst with
  | none => rfl
  | some s =>
    have : t ≠ s := fun e => h (by rw [e])
    simp [AAct.put,AAct.eval,Tr.get_set,this]
theorem Zi9 {a b : AAct} {c : CO} (h : ∀ t ∈ Ze5 c,a.eval (.t t) = b.eval (.t t)) : Zn a c = Zn b c := by
  unfold Zn
  cases hg : c.guard with
  | none => rfl
  | some p =>
    obtain ⟨t,want⟩ := p
    have ht : t ∈ Ze5 c := by unfold Ze5; rw [hg]; simp
    have h1 := h t ht
    simp only [AAct.eval] at h1
    simp only
    cases ha : a.tmps.get t with
    | none =>
      rw [ha] at h1
      cases hb : b.tmps.get t with
      | none => rfl
      | some v => rw [hb] at h1; simp only at h1; subst h1; rfl
    | some u =>
      rw [ha] at h1
      cases hb : b.tmps.get t with
      | none => rw [hb] at h1; simp only at h1; subst h1; rfl
      | some v => rw [hb] at h1; simp only at h1; subst h1; rfl
theorem Z5r {P : Program} {glob : Nat → Option (List D)} {o : Oper} {q : COp} {n : Nat} {x : Opd} (hc : Zp4 P glob o = some q) (hq : q = .ld1 x ∨ q = .ldN n x) : ∃ y,ZC glob y = some x := by
  unfold Zp4 at hc
  split at hc
  all_goals first
    | (split at hc
       · rename_i h3; cases hc; rcases hq with hq | hq <;> cases hq; exact ⟨_,h3⟩
       · rename_i h3; cases hc; rcases hq with hq | hq <;> cases hq; exact ⟨_,h3⟩
       · cases hc)
    | (exfalso; repeat' (first | (cases hc; done) | (obtain ⟨_,_,hh⟩ := map_some hc; subst hh; rcases hq with hq | hq <;> cases hq; done) | (cases hc; rcases hq with hq | hq <;> cases hq; done) | split at hc | (unfold cond at hc; split at hc)))
theorem Z86 {P : Program} {glob : Nat → Option (List D)} {o : Oper} {x : Opd} (hc : Zp4 P glob o = some (.b2s x)) : ∃ y,ZC glob y = some x := by
  unfold Zp4 at hc
  split at hc
  all_goals first
    | (exfalso; (repeat' (first | (cases hc; done) | (obtain ⟨_,_,hh⟩ := map_some hc; cases hh; done) | split at hc | (unfold cond at hc; split at hc))); done)
    | (split at hc
       all_goals first
         | (cases hc; done)
         | (rename_i h3
            split at hc
            all_goals first
              | (cases hc; done)
              | (cases hc; exact ⟨_,h3⟩)))
section
variable {P : Program} {glob : Nat → Option (List D)} {N : Nat} {E : Env} {call : Call} {ops : Array Oper} {B : Nat} {l : List CO} {aT : Nat → AAct} {hT : Nat → H} {rT : Nat → List Rec} {S : Nat → Prop} {mem : Nat → Option AObj} {i : Nat}
variable {top : Nat} {g0 g : G} {w0 w : World} {aS : AAct} {A : Act}
structure WInv (P : Program) (N : Nat) (ops : Array Oper) (B : Nat) (l : List CO) (aT : Nat → AAct) (hT : Nat → H) (top : Nat) (g0 : G) (w0 : World) (S : Nat → Prop) (g : G) (mem : Nat → Option AObj) (aS : AAct) (A : Act) (w : World) : Prop where
  m : MInv ops B l aT hT S mem
  core : C P g mem w
  arel : ARel g aS A N
  ext : Ext g0 (hT 0) w0 g (hT B) w
  fresh : ∀ k,k < top → (∀ m,¬ Zp6 B hT S k m) → Zf6 g k
  tmp : ∀ t m,m ≤ B → (∀ k c,l[k]? = some c → c.dst = some t → (S k ↔ k < m)) → aS.eval (.t t) = (aT m).eval (.t t)
  nod : aS.defers = (aT 0).defers
theorem Run.stepTmp (hR : Run P glob N E call ops B l aT hT rT) {j : Nat} (hj : j < B) {c : CO} (hc : l[j]? = some c) : ∃ d,aT (j + 1) = (aT j).put c.dst d := by
  cases hR.step j c hj hc with
  | skip _ h => exact ⟨_,h⟩
  | read d _ _ _ _ _ h => exact ⟨_,h⟩
  | loud d _ _ h => exact ⟨_,h⟩
  | quiet d _ _ h => exact ⟨_,h⟩
theorem Run.keepTmp (hR : Run P glob N E call ops B l aT hT rT) {t i : Nat} : ∀ {j : Nat},i ≤ j → j ≤ B → (∀ k c,i ≤ k → k < j → l[k]? = some c → c.dst ≠ some t) → (aT j).eval (.t t) = (aT i).eval (.t t)
  | 0, hij, _, _ => by have : i = 0 := by omega
                       subst this; rfl
  | j + 1,hij,hj,hn => by
    by_cases e : i = j + 1
    · subst e; rfl
    · obtain ⟨o,gd,q,_,h2,_⟩ := hR.at (j := j) (by omega)
      obtain ⟨d,hd⟩ := hR.stepTmp (by omega) h2
      rw [hd,AAct.eval_put_ne _ (hn j _ (by omega) (by omega) h2),hR.keepTmp (by omega) (by omega) fun k c h3 h4 => hn k c h3 (by omega)]
theorem AAct.put_defers' (a : AAct) (dst : Option Nat) (d : D) : (a.put dst d).defers = a.defers := by
  unfold AAct.put
  split <;> rfl
theorem Run.noDefers (hR : Run P glob N E call ops B l aT hT rT) : ∀ {j : Nat},j ≤ B → (aT j).defers = (aT 0).defers
  | 0,_ => rfl
  | j + 1,hj => by
    obtain ⟨o,gd,q,_,h2,_⟩ := hR.at (j := j) (by omega)
    obtain ⟨d,hd⟩ := hR.stepTmp (by omega) h2
    rw [hd,← hR.noDefers (j := j) (by omega)]
    unfold AAct.put
    split <;> rfl
theorem Zms {x y : CO} (h : Zh7 x y = true) {t : Nat} (hx : x.dst = some t) : t ∉ Ze5 y ∧ y.dst ≠ some t := by
  unfold Zh7 at h
  rw [hx] at h
  simp only [Bool.and_eq_true,Bool.not_eq_true'] at h
  refine ⟨fun hm => ?_,fun he => ?_⟩
  · rw [Zos.2 hm] at h; cases h.1.1
  · rw [he] at h; simp at h
theorem Zv9 {x y : CO} (h : Zh7 x y = true) {t : Nat} (hy : y.dst = some t) : t ∉ Ze5 x := by
  unfold Zh7 at h
  rw [hy] at h
  simp only [Bool.and_eq_true,Bool.not_eq_true'] at h
  intro hm
  rw [Zos.2 hm] at h; cases h.2
theorem WInv.looks (hR : Run P glob N E call ops B l aT hT rT) (hI : WInv P N ops B l aT hT top g0 w0 S g mem aS A w) (hi : i ≤ B) (hio : i < ops.size) (hS : ¬ S i) (hready : ∀ k,k < i → Ya k (Yj ops i) = false → S k) {c : CO} (hc : l[i]? = some c) :
    ∀ t ∈ Ze5 c,aS.eval (.t t) = (aT i).eval (.t t) := by
  intro t ht
  refine hI.tmp t i hi fun k ck hck hd => ⟨fun hs => ?_,fun hki => ?_⟩
  · rcases Nat.lt_trichotomy k i with h | h | h
    · exact h
    · subst h; exact absurd hs hS
    · exact absurd ht (Zv9 (hR.open' h (Nat.lt_of_lt_of_le (hI.m.lt k hs) hR.bnd) hc hck (hI.m.opens hS hs h)).2 hd)
  · cases hm : Ya k (Yj ops i) with
    | false => exact hready k hki hm
    | true => exact absurd ht (Zms (hR.open' hki hio hck hc hm).2 hd).1
theorem WInv.addTmp (hR : Run P glob N E call ops B l aT hT rT) (hI : WInv P N ops B l aT hT top g0 w0 S g mem aS A w) (hi : i < B) (hS : ¬ S i) {c : CO} (hc : l[i]? = some c) {d : D} (hact : aT (i + 1) = (aT i).put c.dst d) :
    ∀ t m,m ≤ B → (∀ k c,l[k]? = some c → c.dst = some t → (Z12 S i k ↔ k < m)) → (aS.put c.dst d).eval (.t t) = (aT m).eval (.t t) := by
  intro t m hm hw
  by_cases hd : c.dst = some t
  · rw [hd,AAct.eval_put_same]
    have him : i < m := (hw i c hc hd).1 (.inr rfl)
    rw [hR.keepTmp (i := i + 1) him hm fun k ck h1 h2 hck he => ?_,hact,hd,AAct.eval_put_same]
    have hs : S k := ((hw k ck hck he).2 h2).resolve_right (by omega)
    exact (Zms (hR.open (i := i) (by omega) (by omega) hc hck (hI.m.opens hS hs (by omega))).2 hd).2 he
  · rw [AAct.eval_put_ne _ hd]
    refine hI.tmp t m hm fun k ck hck he => ?_
    rw [← hw k ck hck he]
    refine ⟨.inl,fun hh => hh.resolve_right fun e => ?_⟩
    subst e; rw [hc] at hck; cases hck; exact hd he
theorem WInv.globs (hI : WInv P N ops B l aT hT top g0 w0 S g mem aS A w) (hg : XB g0 glob) : XB g glob := hg.mono hI.ext.le
theorem WInv.step (hE : E.P = P) (hcall : WE P call glob) (hR : Run P glob N E call ops B l aT hT rT) (hr0 : R P top g0 (hT 0) w0) (htop : (hT B).next ≤ top) (hg0 : XB g0 glob) (hI : WInv P N ops B l aT hT top g0 w0 S g mem aS A w)
    (hi : i < B) (hS : ¬ S i) (hready : ∀ k,k < i → Ya k (Yj ops i) = false → S k) {next : Act → World → Prop} {Q : Exit → Act → World → Prop}
    (hn : ∀ g' mem' aS' A' w',WInv P N ops B l aT hT top g0 w0 (Z12 S i) g' mem' aS' A' w' → next A' w') : wpOp P ops Q i next A w := by
  obtain ⟨o,gd,q,ho,hc,hcg,hcq,hdst⟩ := hR.at hi
  have hlooks := hI.looks hR (Nat.le_of_lt hi) (Nat.lt_of_lt_of_le hi hR.bnd) hS hready hc
  have hD : Zrt (hT 0) := hr0.dom
  have hwt : Zn aS (CO.mk o.dst gd q) = Zn (aT i) (CO.mk o.dst gd q) := Zi9 hlooks
  have hops : ∀ x ∈ Zus q,aS.eval x = (aT i).eval x := fun x hx => by
    cases x with
    | d v => rfl
    | t n => exact hlooks n (by unfold Ze5; exact List.mem_append_left _ (Zgl hx))
  unfold wpOp
  rw [ho]
  simp only
  rw [Zcb rfl (c := q) hcg hI.arel,hwt]
  have hgl := hI.globs hg0
  have h0i := hR.first_le (j := i) (Nat.le_of_lt hi)
  have hin := hR.nx (i := i + 1) (j := B) hi (Nat.le_refl _)
  have hii := hR.nx (i := i) (j := i + 1) (Nat.le_succ _) hi
  cases hw : Zn (aT i) (CO.mk o.dst gd q) with
  | false =>
    rw [if_neg (by simp)]
    obtain ⟨hact,hnx,hm⟩ := hI.m.skip hR hi hready hc hw
    refine hn g mem (aS.put o.dst ZD) (A.put o.dst undef) w ⟨hm,hI.core,hI.arel.put hdst (.undef g),hI.ext,fun k hk hcv => hI.fresh k hk fun m hh => hcv m (hh.mono fun j => .inl),hI.addTmp hR hi hS hc hact,(AAct.put_defers' _ _ _).trans hI.nod⟩
  | true =>
    rw [if_pos rfl]
    have hcov : ∀ k off n,YA (aT i) q = some (.ptr k off,n) → ∃ m,Zp6 B hT S k m := fun k off n hrd => by
      refine Classical.byContradiction fun hno => ?_
      have hno' : ∀ m,¬ Zp6 B hT S k m := fun m hm => hno ⟨m,hm⟩
      have hptr : ∃ x y,ZC glob y = some x ∧ (aS.eval x = .ptr k off ∨ ∃ n c,aS.eval x = .row k off n c) := by
        cases q <;> simp only [YA,Option.some.injEq,Prod.mk.injEq,reduceCtorEq] at hrd
        case ld1 x =>
          obtain ⟨y,hy⟩ := Z5r (n := 0) hcq (.inl rfl)
          exact ⟨x,y,hy,.inl (by rw [hops x (by simp [Zus])]; exact hrd.1)⟩
        case ldN m x =>
          obtain ⟨y,hy⟩ := Z5r hcq (.inr rfl)
          exact ⟨x,y,hy,.inl (by rw [hops x (by simp [Zus])]; exact hrd.1)⟩
        case b2s x =>
          obtain ⟨y,hy⟩ := Z86 hcq
          refine ⟨x,y,hy,.inr ?_⟩
          rw [hops x (by simp [Zus])]
          revert hrd
          cases (aT i).eval x <;> intro hrd <;> simp only [Ziy,Prod.mk.injEq,D.ptr.injEq,reduceCtorEq,false_and] at hrd
          rename_i l o n' c'
          obtain ⟨⟨rfl,rfl⟩,_⟩ := hrd
          exact ⟨_,_,rfl⟩
      obtain ⟨x,y,hy,hxe⟩ := hptr
      have hv := hI.arel.orel hgl y x hy
      have hbk : ∃ b,g.blk k = some b := by
        rcases hxe with hxe | ⟨n',c',hxe⟩
        · rw [hxe] at hv
          generalize A.eval y = v at hv
          cases hv with
          | ptr hb => exact ⟨_,hb⟩
        · rw [hxe] at hv
          generalize A.eval y = v at hv
          cases hv with
          | row hb => exact ⟨_,hb⟩
      cases hbk with
      | intro b hb =>
        -- the name is below what the reckoner has made
        have hk : k < top := by
          refine Nat.lt_of_lt_of_le (Nat.lt_of_not_le fun hq => ?_) htop
          have hcs : ∃ cs,Z3 (hT i) (.ptr k off) n = some cs := by
            cases hR.step i _ hi hc with
            | skip hw' => rw [hw] at hw'; cases hw'
            | read d y n' cs _ _ _ hrd' hcs => 
              have : YA (aT i) q = some (y,n') := hrd'
              rw [this] at hrd; cases hrd; exact ⟨cs,hcs⟩
            | loud d _ _ _ hrd' => have : YA (aT i) q = none := hrd'
                                   rw [this] at hrd; cases hrd
            | quiet d _ _ _ hrd' => have : YA (aT i) q = none := hrd'
                                    rw [this] at hrd; cases hrd
          obtain ⟨cs,hcs⟩ := hcs
          have := hR.dom hD (Nat.le_of_lt hi) k (by omega)
          simp only [Z3,this] at hcs
          cases hcs
        rw [(hI.fresh k hk hno').1] at hb; cases hb
    obtain ⟨K,K',d,ha⟩ := hI.m.next hR hD hi hS hready hc hw hcov
    have hrun : Vh q E call aS K = .ok d K' := by rw [Zrh hops]; exact ha.run
    have hname : ∀ k,(hT i).next ≤ k → k < (hT (i + 1)).next → Zf6 g k := fun k h1 h2 => hI.fresh k (by omega) fun m hcv => hR.notin hi hS hcv ⟨h1,h2⟩
    have hrK : R P K'.next g K w := hI.core.toR ha.sub (fun k h1 h2 => hname k (by rw [ha.k1] at h1; exact h1) (by rw [ha.k2] at h2; exact h2)) ha.dom (by rw [ha.k1,ha.k2]; exact hii) (by rw [ha.k1]; exact Nat.lt_of_lt_of_le hr0.pos.1 h0i)
    refine .inl (Zkc (p := false) hcq hI.arel hgl hrK (Nat.le_refl _) hcall E hE hrun (fun _ v w' g' hY hR' hV => ?_) (fun hh => by cases hh))
    have hX := hI.ext
    -- what the call did not own,the operation does not own
    have hnone : ∀ k,(hT 0).mem.get k = none → (k < (hT 0).next ∨ (hT B).next ≤ k ∨ ¬ Zf6 g0 k ∧ k < top) → K.mem.get k = none := fun k h1 h2 => by
      cases hKk : K.mem.get k with
      | none => rfl
      | some ob =>
        have hmk := ha.sub k ob hKk
        refine absurd ?_ (show ¬ False from id)
        have hcv : ∃ m,Zp6 B hT S k m := Classical.byContradiction fun hno => by
          rw [hI.m.nocov k fun m hm => hno ⟨m,hm⟩] at hmk; cases hmk
        obtain ⟨m,hcv⟩ := hcv
        obtain ⟨u,hu⟩ := First.ex B l aT S
        have hule := hu.le
        rcases hcv with ⟨h3,h4⟩ | ⟨j,h3,h4,h5,h6,h7⟩
        · have := hI.m.cov u hu k m (.inl ⟨h3,h4⟩)
          rw [(hR.growth (Nat.zero_le _) (by omega)).old k h4 h1] at this
          rw [this] at hmk; cases hmk
        · have h8 := hR.first_le (j := j) (by omega)
          have h9 := hR.nx (i := j + 1) (j := B) h4 (Nat.le_refl _)
          rcases h2 with h2 | h2 | ⟨h2,_⟩
          · omega
          · omega
          · exact h2 (hr0.name k (by omega) (by omega))
    have hown : ∀ b,b < w0.heap.size → (∀ k,g0.own b = some k → (hT 0).mem.get k = none) → ∀ k,g.own b = some k → K.mem.get k = none := fun b hb hl k hk => by
      rw [hX.ownold b hb] at hk
      have hnf : ¬ Zf6 g0 k := fun hf => hf.2.2 b hk
      by_cases h1 : k < (hT 0).next
      · exact hnone k (hl k hk) (.inl h1)
      · by_cases h2 : k < top
        · exact hnone k (hl k hk) (.inr (.inr ⟨hnf,h2⟩))
        · exact hnone k (hl k hk) (.inr (.inl (by omega)))
    have hsz := hX.size
    refine hn g' (UE mem K K') (aS.put o.dst d) (A.put o.dst v) w' ⟨ha.inv,hI.core.merge hrK hY hR',(hI.arel.mono hY.le).put hdst hV, ?_, ?_,hI.addTmp hR hi hS hc ha.act,(AAct.put_defers' _ _ _).trans hI.nod⟩
    · refine ⟨hX.le.trans hY.le,fun b k h => hY.own b k (hX.own b k h),fun b hb => by rw [hY.ownold b (by omega),hX.ownold b hb],by rw [hY.os,hX.os],by rw [hY.tape,hX.tape],by rw [hY.output,hX.output],Nat.le_trans hX.size hY.size,fun b hb hl => ?_,hX.dom,hX.next,fun k hf hk => ?_,fun b hb hl ob => ?_,fun id n hid hk => ?_⟩
      · rw [hY.fr b (by omega) (hown b hb hl),hX.fr b hb hl]
      · refine hY.names k (hX.names k hf hk) ?_
        rw [ha.k1,ha.k2]
        omega
      · rw [hY.immfr b (by omega) (hown b hb hl),hX.immfr b hb hl]
      · rw [hY.slfr id n (hnone id hid (by omega)) (by rw [ha.k1,ha.k2]; omega),hX.slfr id n hid hk]
    · intro k hk hcv
      refine hY.names k (hI.fresh k hk fun m hh => hcv m (hh.mono fun j => .inl)) ?_
      rw [ha.k1,ha.k2]
      refine Nat.lt_or_ge k (hT i).next |>.imp id fun h1 => Nat.le_of_not_lt fun h2 => ?_
      exact hcv (i + 1) (.inr ⟨i,rfl,hi,.inr rfl,h1,h2⟩)
end
def YL (listed : Array Bool) (j : Nat) : Prop := j < listed.size ∧ listed.getD j false = true
theorem Zil {p q : Nat → Bool} : ∀ (l : List Nat),(∀ x ∈ l,q x = true → p x = true) → (∃ x ∈ l,p x = true ∧ q x = false) → (l.filter q).length + 1 ≤ (l.filter p).length
  | [],_,⟨x,hx,_⟩ => by simp at hx
  | y :: l,h,⟨x,hx,hp,hq⟩ => by
    have hle : ∀ l : List Nat,(∀ x ∈ l,q x = true → p x = true) → (l.filter q).length ≤ (l.filter p).length := fun l hl => by
      induction l with
      | nil => simp
      | cons z l ih =>
        have := ih fun x hx => hl x (List.mem_cons_of_mem _ hx)
        have hz := hl z (List.mem_cons_self)
        simp only [List.filter_cons]
        cases hqz : q z with
        | true => rw [hz hqz]; simpa using this
        | false => cases p z <;> simp <;> omega
    have h1 := h y List.mem_cons_self
    have h2 : ∀ x ∈ l,q x = true → p x = true := fun x hx => h x (List.mem_cons_of_mem _ hx)
    simp only [List.mem_cons] at hx
    simp only [List.filter_cons]
    rcases hx with rfl | hx
    · rw [hp,hq]; have := hle l h2; simp; omega
    · have := Zil l h2 ⟨x,hx,hp,hq⟩
      cases hqy : q y with
      | true => rw [h1 hqy]; simp; omega
      | false => cases p y <;> simp <;> omega
section
variable {P : Program} {glob : Nat → Option (List D)} {N : Nat} {E : Env} {call : Call} {ops : Array Oper} {B : Nat} {l : List CO} {aT : Nat → AAct} {hT : Nat → H} {rT : Nat → List Rec}
variable {top : Nat} {g0 g : G} {w0 w : World} {aS : AAct} {A : Act}
def Xq (ops : Array Oper) (listed : Array Bool) : Nat := ((List.range ops.size).filter fun i => !listed.getD i true).length
theorem Zjo {listed : Array Bool} {i j : Nat} (hi : i < listed.size) : YL (listed.setIfInBounds i true) j ↔ Z12 (YL listed) i j := by
  unfold YL Z12
  simp only [Array.size_setIfInBounds,Array.getD_eq_getD_getElem?]
  by_cases e : j = i
  · subst e; simp [hi]
  · rw [Array.getElem?_setIfInBounds_ne (Ne.symm e)]
    simp [e]
theorem MInv.congr {S S' : Nat → Prop} {mem : Nat → Option AObj} (h : ∀ j,S j ↔ S' j) (hI : MInv ops B l aT hT S mem) : MInv ops B l aT hT S' mem := by
  have : S = S' := funext fun j => propext (h j)
  rw [← this]; exact hI
theorem WInv.congr {S S' : Nat → Prop} {mem : Nat → Option AObj} (h : ∀ j,S j ↔ S' j) (hI : WInv P N ops B l aT hT top g0 w0 S g mem aS A w) : WInv P N ops B l aT hT top g0 w0 S' g mem aS A w := by
  have : S = S' := funext fun j => propext (h j)
  rw [← this]; exact hI
theorem Zjc (hR : Run P glob N E call ops B l aT hT rT) {S : Nat → Prop} (hcl : ∀ j,S j → ∀ i,i < j → Ya i (Yj ops j) = false → S i) {i : Nat} {o : Oper} (ho : ops[i]? = some o) (hed : ∀ e ∈ o.after,Region.binds .any e = true → S e.on) :
    ∀ k,k < i → Ya k (Yj ops i) = false → S k := by
  intro k hki hm
  have hi : i < ops.size := (Array.getElem?_eq_some_iff.1 ho).1
  obtain ⟨ok,gk,qk,_,hck,_⟩ := hR.at' (j := k) (by omega)
  obtain ⟨oi,gi,qi,_,hci,_⟩ := hR.at' hi
  have hb := (hR.pair k i _ _ o hki hck hci ho).2 hm
  unfold below at hb
  rw [List.any_eq_true] at hb
  obtain ⟨e,he,hb⟩ := hb
  simp only [Bool.and_eq_true,Bool.or_eq_true,Bool.not_eq_true'] at hb
  have hse := hed e (by simpa using he) hb.1
  rcases hb.2 with h1 | ⟨⟨h1,h2⟩,h3⟩
  · rw [← Nat.eq_of_beq_eq_true h1]; exact hse
  · have h4 : k + 1 ≤ e.on := by simpa [Nat.blt] using h2
    exact hcl e.on hse k (by omega) h3
theorem Zj0 (hR : Run P glob N E call ops B l aT hT rT) {listed : Array Bool} (hsz : listed.size = ops.size) (hr : Region.ready .any ops listed = []) : ∀ j,j < ops.size → YL listed j := by
  intro j
  induction j using Nat.strongRecOn with
  | _ j ih =>
    intro hj
    refine Classical.byContradiction fun hn => ?_
    have hmem : j ∈ Region.ready .any ops listed := by
      unfold Region.ready
      rw [List.mem_filter]
      refine ⟨by simpa using hj, ?_⟩
      have h1 : ops[j]? = some ops[j] := by simp [hj]
      rw [h1]
      simp only [Option.map_some,Option.getD_some,Bool.and_eq_true,Bool.not_eq_true',Array.all_eq_true',Bool.or_eq_true]
      refine ⟨?_,fun e he => ?_⟩
      · cases hb : listed.getD j true with
        | false => rfl
        | true =>
          refine absurd ⟨by omega, ?_⟩ hn
          have hjl : j < listed.size := by omega
          simp [hjl] at hb ⊢; exact hb
      · cases hb : Region.binds .any e with
        | false => exact .inl rfl
        | true => exact .inr (ih e.on (hR.edge j _ h1 e he hb) (Nat.lt_trans (hR.edge j _ h1 e he hb) hj)).2
    rw [hr] at hmem
    cases hmem
theorem Z9g (hE : E.P = P) (hcall : WE P call glob) (hR : Run P glob N E call ops ops.size l aT hT rT) (hr0 : R P top g0 (hT 0) w0) (htop : (hT ops.size).next ≤ top) (hg0 : XB g0 glob) {Q : Exit → Act → World → Prop}
    (hQ : ∀ w' g' A',Ext g0 (hT 0) w0 g' (hT ops.size) w' → R P top g' (hT ops.size) w' → ARel g' (aT ops.size) A' N → Q .normal A' w') :
    ∀ (fuel : Nat) (listed : Array Bool) {g : G} {mem : Nat → Option AObj} {aS : AAct} {A : Act} {w : World},listed.size = ops.size → Xq ops listed ≤ fuel → WInv P N ops ops.size l aT hT top g0 w0 (YL listed) g mem aS A w → wpAny P .any ops Q fuel listed A w := by
  have fin : ∀ (listed : Array Bool) {g : G} {mem : Nat → Option AObj} {aS : AAct} {A : Act} {w : World},listed.size = ops.size → Region.ready .any ops listed = [] → WInv P N ops ops.size l aT hT top g0 w0 (YL listed) g mem aS A w → Q .normal A w := by
    intro listed g mem aS A w hsz hr hI
    have hall := Zj0 hR hsz hr
    have hD : Zrt (hT 0) := hr0.dom
    have hDn := hR.dom hD (Nat.le_refl _)
    have hfirst : First ops.size l aT (YL listed) ops.size := ⟨Nat.le_refl _,fun j hj _ => hall j hj,fun h => absurd h (Nat.lt_irrefl _)⟩
    have hR' : R P top g (hT ops.size) w := hI.core.toR (fun k ob hk => by
        have hlt : k < (hT ops.size).next := Nat.lt_of_not_le fun hq => by rw [hDn k hq] at hk; cases hk
        have hcv : ∃ m,m ≤ ops.size ∧ Zp6 ops.size hT (YL listed) k m := by
          rcases hR.made (Nat.le_refl _) hlt with h | ⟨m,hm,h1,h2⟩
          · exact ⟨0,Nat.zero_le _,.inl ⟨rfl,h⟩⟩
          · exact ⟨m + 1,hm,.inr ⟨m,rfl,hm,hall m hm,h1,h2⟩⟩
        obtain ⟨m,hm,hcv⟩ := hcv
        rw [hI.m.cov _ hfirst k m hcv,Nat.max_eq_left hm,hk])
      (fun k h1 h2 => hI.fresh k h2 fun m hcv => by
        rcases hcv with ⟨_,h3⟩ | ⟨j,_,h3,_,_,h4⟩
        · have := hR.first_le (Nat.le_refl ops.size); omega
        · have := hR.nx (i := j + 1) (j := ops.size) h3 (Nat.le_refl _); omega)
      hDn htop (Nat.lt_of_lt_of_le hr0.pos.1 (hR.first_le (Nat.le_refl _)))
    refine hQ w g A hI.ext hR' ⟨fun t => ?_,hI.arel.size,by rw [hR.noDefers (Nat.le_refl _),← hI.nod]; exact hI.arel.dfr⟩
    rw [← hI.tmp t ops.size (Nat.le_refl _) fun k c hc _ => ⟨fun h => by have := h.1; omega,fun h => hall k h⟩]
    exact hI.arel.tmp t
  intro fuel
  induction fuel with
  | zero =>
    intro listed g mem aS A w hsz hcount hI
    have hr : Region.ready .any ops listed = [] := by
      unfold Region.ready
      rw [List.filter_eq_nil_iff]
      intro i hi
      have h0 : (List.range ops.size).filter (fun i => !listed.getD i true) = [] := List.length_eq_zero_iff.1 (Nat.le_zero.1 hcount)
      rw [List.filter_eq_nil_iff] at h0
      have := h0 i hi
      simp only [Bool.not_eq_true,Bool.not_eq_false'] at this
      simp [this]
    exact ⟨hr,fin listed hsz hr hI⟩
  | succ fuel ih =>
    intro listed g mem aS A w hsz hcount hI
    refine ⟨fun hr => fin listed hsz hr hI,fun i hir => ?_⟩
    unfold Region.ready at hir
    rw [List.mem_filter] at hir
    obtain ⟨hi,hcond⟩ := hir
    have hi' : i < ops.size := by simpa using hi
    have ho : ops[i]? = some ops[i] := by simp [hi']
    rw [ho] at hcond
    simp only [Option.map_some,Option.getD_some,Bool.and_eq_true,Bool.not_eq_true',Array.all_eq_true',Bool.or_eq_true] at hcond
    have hil : i < listed.size := by omega
    have hS : ¬ YL listed i := fun hs => by
      have h1 := hs.2
      have h2 := hcond.1
      simp [hil] at h1 h2
      rw [h1] at h2; cases h2
    have hed : ∀ e ∈ ops[i].after,Region.binds .any e = true → YL listed e.on := fun e he hb => by
      rcases hcond.2 e he with h | h
      · rw [hb] at h; cases h
      · have := hR.edge i _ ho e he hb
        exact ⟨by omega,h⟩
    refine hI.step hE hcall hR hr0 htop hg0 hi' hS (Zjc hR hI.m.closed ho hed) fun g' mem' aS' A' w' hI' => ?_
    refine ih (listed.setIfInBounds i true) (by simpa using hsz) ?_ (hI'.congr fun j => (Zjo hil).symm)
    have hlt : Xq ops (listed.setIfInBounds i true) + 1 ≤ Xq ops listed := by
      unfold Xq
      refine Zil _ (fun x hx => ?_) ⟨i,hi, ?_, ?_⟩
      · by_cases e : x = i
        · subst e; simp [hil]
        · simp [Array.getElem?_setIfInBounds_ne (Ne.symm e)]
      · simp [hcond.1]
      · simp [hil]
    omega
theorem Z9h (hE : E.P = P) (hcall : WE P call glob) (hR : Run P glob N E call ops B l aT hT rT) (hr0 : R P top g0 (hT 0) w0) (hg0 : XB g0 glob) (hB : B < ops.size) {c : CO} (hc : l[B]? = some c) (hw : Zn (aT B) c = true) {d : D} {h' : H} (hrun : UO E call (aT B) c.op (hT B) = .panic d h') (hl : Y8 c.op = true)
    (hlt : ∀ j,B < j → j < ops.size → Ya B (Yj ops j) = false) (hdf : (aT B).defers = [] ∨ Yj ops B = []) (htop : h'.next ≤ top) {Q : Exit → Act → World → Prop}
    (hQ : ∀ w' g' A' v,Ext g0 (hT 0) w0 g' h' w' → R P top g' h' w' → PRel g' (aT B) A' N → VRel g' d v → Q (.panic [{ v,recovered := false }]) A' w') :
    ∀ (fuel : Nat) (listed : Array Bool) {g : G} {mem : Nat → Option AObj} {aS : AAct} {A : Act} {w : World},listed.size = ops.size → Xq ops listed ≤ fuel → WInv P N ops B l aT hT top g0 w0 (YL listed) g mem aS A w → wpAny P .any ops Q fuel listed A w := by
  have hgr := Zvx hR.grow hrun
  have htopB : (hT B).next ≤ top := Nat.le_trans hgr.next htop
  have hD : Zrt (hT 0) := hr0.dom
  have hDB := hR.dom hD (Nat.le_refl B)
  have notB : ∀ (listed : Array Bool) {g : G} {mem : Nat → Option AObj} {aS : AAct} {A : Act} {w : World},WInv P N ops B l aT hT top g0 w0 (YL listed) g mem aS A w → ¬ YL listed B := fun listed _ _ _ _ _ hI hs => Nat.lt_irrefl _ (hI.m.lt B hs)
  obtain ⟨oB,gB,qB,hoB,hcB,hcgB,hcqB,hdstB⟩ := hR.at' hB
  rw [hc] at hcB
  cases hcB
  -- the operation itself
  have here : ∀ (listed : Array Bool) {g : G} {mem : Nat → Option AObj} {aS : AAct} {A : Act} {w : World} (K : Act → World → Prop),(∀ k,k < B → Ya k (Yj ops B) = false → YL listed k) → WInv P N ops B l aT hT top g0 w0 (YL listed) g mem aS A w → wpOp P ops Q B K A w := by
    intro listed g mem aS A w K hready hI
    have hnB := notB listed hI
    have hlooks := hI.looks hR (Nat.le_refl B) hB hnB hready hc
    have hwt : Zn aS (CO.mk oB.dst gB qB) = Zn (aT B) (CO.mk oB.dst gB qB) := Zi9 hlooks
    have hops : ∀ x ∈ Zus qB,aS.eval x = (aT B).eval x := fun x hx => by
      cases x with
      | d v => rfl
      | t n => exact hlooks n (by unfold Ze5; exact List.mem_append_left _ (Zgl hx))
    have hloudS : ∀ j,j < B → Yx l aT j → YL listed j := fun j hj ⟨cj,h1,h2,h3⟩ => by
      cases hm : Ya j (Yj ops B) with
      | false => exact hready j hj hm
      | true => exact (VS (hR.open' hj hB h1 hc hm).1 h3 hl).elim
    have hallocS : ∀ j cj,j < B → l[j]? = some cj → Zq cj.op = .alloc → YL listed j := fun j cj hj h1 h3 => by
      cases hm : Ya j (Yj ops B) with
      | false => exact hready j hj hm
      | true => exact (Zcu (hR.open' hj hB h1 hc hm).1 h3 hl).elim
    have hfirst : First B l aT (YL listed) B := ⟨Nat.le_refl _,hloudS,fun h => absurd h (Nat.lt_irrefl _)⟩
    have hmem : ∀ k ob,(hT B).mem.get k = some ob → mem k = some ob := fun k ob hk => by
      have hlt : k < (hT B).next := Nat.lt_of_not_le fun hq => by rw [hDB k hq] at hk; cases hk
      have hcv : ∃ m,m ≤ B ∧ Zp6 B hT (YL listed) k m := by
        rcases hR.made (Nat.le_refl _) hlt with h | ⟨m,hm,h1,h2⟩
        · exact ⟨0,Nat.zero_le _,.inl ⟨rfl,h⟩⟩
        · refine ⟨m + 1,hm,.inr ⟨m,rfl,hm, ?_,h1,h2⟩⟩
          rcases hR.maker hm (Nat.lt_of_le_of_lt h1 h2) with h3 | ⟨cm,hcm,h3⟩
          · exact hloudS m hm h3
          · exact hallocS m cm hm hcm h3
      obtain ⟨m,hm,hcv⟩ := hcv
      rw [hI.m.cov _ hfirst k m hcv,Nat.max_eq_left hm,hk]
    have hR' : R P top g (hT B) w := hI.core.toR hmem
      (fun k h1 h2 => hI.fresh k h2 fun m hcv => by
        rcases hcv with ⟨_,h3⟩ | ⟨j,_,h3,_,_,h4⟩
        · have := hR.first_le (Nat.le_refl B); omega
        · have := hR.nx (i := j + 1) (j := B) h3 (Nat.le_refl _); omega)
      hDB htopB (Nat.lt_of_lt_of_le hr0.pos.1 (hR.first_le (Nat.le_refl _)))
    unfold wpOp
    rw [hoB]
    simp only
    rw [Zcb rfl (c := qB) hcgB hI.arel,hwt,hw,if_pos rfl]
    have hrun' : Vh qB E call aS (hT B) = .panic d h' := by rw [Zrh hops]; exact hrun
    refine .inl (Zkc (p := true) hcqB hI.arel (hI.globs hg0) hR' htop hcall E hE hrun' (fun hh => by cases hh) (fun _ v w' g' hY hR2 hV => ?_))
    refine hQ w' g' A v (Ext.trans hr0 hR' hI.ext hY) hR2 ?_ hV
    rcases hdf with h0 | h0
    · refine .inr ⟨h0, ?_⟩
      have h1 := hI.arel.dfr
      rw [hI.nod,← hR.noDefers (Nat.le_refl B),h0] at h1
      cases hAd : A.defers with
      | nil => rfl
      | cons _ _ => rw [hAd] at h1; exact h1.elim
    · refine .inl ⟨fun t => ?_,hI.arel.size, ?_⟩
      · rw [← hI.tmp t B (Nat.le_refl _) fun k ck _ _ => ⟨fun h => hI.m.lt k h,fun h => hready k h (by rw [h0]; rfl)⟩]
        exact (hI.arel.mono hY.le).tmp t
      · rw [hR.noDefers (Nat.le_refl B),← hI.nod]; exact (hI.arel.mono hY.le).dfr
  intro fuel
  induction fuel with
  | zero =>
    intro listed g mem aS A w hsz hcount hI
    have hnB := notB listed hI
    exfalso
    have h0 : (List.range ops.size).filter (fun i => !listed.getD i true) = [] := List.length_eq_zero_iff.1 (Nat.le_zero.1 hcount)
    rw [List.filter_eq_nil_iff] at h0
    have := h0 B (by simpa using hB)
    simp only [Bool.not_eq_true,Bool.not_eq_false'] at this
    refine hnB ⟨by omega, ?_⟩
    have hbl : B < listed.size := by omega
    simp [hbl] at this ⊢; exact this
  | succ fuel ih =>
    intro listed g mem aS A w hsz hcount hI
    have hnB := notB listed hI
    refine ⟨fun hr => absurd (Zj0 hR hsz hr B hB) hnB,fun i hir => ?_⟩
    unfold Region.ready at hir
    rw [List.mem_filter] at hir
    obtain ⟨hi,hcond⟩ := hir
    have hi' : i < ops.size := by simpa using hi
    have ho : ops[i]? = some ops[i] := by simp [hi']
    rw [ho] at hcond
    simp only [Option.map_some,Option.getD_some,Bool.and_eq_true,Bool.not_eq_true',Array.all_eq_true',Bool.or_eq_true] at hcond
    have hil : i < listed.size := by omega
    have hS : ¬ YL listed i := fun hs => by
      have h1 := hs.2
      have h2 := hcond.1
      simp [hil] at h1 h2
      rw [h1] at h2; cases h2
    have hed : ∀ e ∈ ops[i].after,Region.binds .any e = true → YL listed e.on := fun e he hb => by
      rcases hcond.2 e he with h | h
      · rw [hb] at h; cases h
      · have := hR.edge i _ ho e he hb
        exact ⟨by omega,h⟩
    have hrb := Zjc hR hI.m.closed ho hed
    rcases Nat.lt_trichotomy i B with hiB | hiB | hiB
    · refine hI.step hE hcall hR hr0 (Nat.le_trans (Nat.le_refl _) htopB) hg0 hiB hS hrb fun g' mem' aS' A' w' hI' => ?_
      refine ih (listed.setIfInBounds i true) (by simpa using hsz) ?_ (hI'.congr fun j => (Zjo hil).symm)
      have hlt : Xq ops (listed.setIfInBounds i true) + 1 ≤ Xq ops listed := by
        unfold Xq
        refine Zil _ (fun x hx => ?_) ⟨i,hi, ?_, ?_⟩
        · by_cases e : x = i
          · subst e; simp [hil]
          · simp [Array.getElem?_setIfInBounds_ne (Ne.symm e)]
        · simp [hcond.1]
        · simp [hil]
      omega
    · subst hiB; exact here listed _ hrb hI
    · exact absurd (hrb B hiB (hlt i hiB hi')) hnB
end
theorem Zby {pm iv : List Nat} {n : Nat} (h : Wf pm iv n = true) : pm.length = n ∧ iv.length = n := by
  unfold Wf at h
  simp only [Bool.and_eq_true,Nat.beq_eq] at h
  exact h.1
theorem Zaa {pm iv : List Nat} {n : Nat} (h : Wf pm iv n = true) {k : Nat} (hk : k < n) : iv.getD (pm.getD k n) n = k ∧ pm.getD (iv.getD k n) n = k := by
  unfold Wf at h
  simp only [Bool.and_eq_true,List.all_eq_true,List.mem_range,Nat.beq_eq] at h
  exact h.2 k hk
theorem Z8c {l : List Nat} {k d e : Nat} (h : k < l.length) : l.getD k d = l.getD k e := by
  rw [List.getD_eq_getElem?_getD,List.getD_eq_getElem?_getD,List.getElem?_eq_getElem h]; rfl
theorem UZ {pm iv : List Nat} {n : Nat} (h : Wf pm iv n = true) {k : Nat} (hk : k < n) : pm.getD k n < n ∧ iv.getD k n < n := by
  obtain ⟨h1,h2⟩ := Zaa h hk
  obtain ⟨l1,l2⟩ := Zby h
  constructor
  · refine Nat.lt_of_not_le fun hle => ?_
    rw [List.getD_eq_getElem?_getD,List.getElem?_eq_none (by omega)] at h1
    simp at h1
    omega
  · refine Nat.lt_of_not_le fun hle => ?_
    rw [List.getD_eq_getElem?_getD,List.getElem?_eq_none (by omega)] at h2
    simp at h2
    omega
theorem Zcs {pm iv : List Nat} {n : Nat} (h : Wf pm iv n = true) {k : Nat} (hk : k < n) : Zkx iv k = iv.getD k n := Z8c (by rw [(Zby h).2]; exact hk)
theorem Zwv {pm iv : List Nat} {n : Nat} (h : Wf pm iv n = true) {k : Nat} (hk : n ≤ k) : Zkx iv k = k := by
  unfold Zkx
  rw [List.getD_eq_getElem?_getD,List.getElem?_eq_none (by rw [(Zby h).2]; exact hk)]
  rfl
theorem Zie {pm iv : List Nat} {ops : Array Oper} (h : Wf pm iv ops.size = true) {i : Nat} (hi : i < ops.size) : (Zfp pm iv ops)[Zkx iv i]? = some (Zn2 iv ops[i]) := by
  obtain ⟨l1,l2⟩ := Zby h
  obtain ⟨h1,h2⟩ := Zaa h hi
  have hlt := (UZ h hi).2
  rw [Zcs h hi]
  have e : pm[iv.getD i ops.size]? = some i := by
    rw [List.getElem?_eq_getElem (by omega)]
    rw [List.getD_eq_getElem?_getD,List.getElem?_eq_getElem (by omega)] at h2
    exact congrArg some h2
  simp only [Zfp,List.getElem?_toArray,List.getElem?_map,e,Option.map_some,Array.getD,hi,dite_true]
  rfl
theorem Z0m {pm iv : List Nat} {ops : Array Oper} (h : Wf pm iv ops.size = true) {i : Nat} (hi : ops.size ≤ i) : (Zfp pm iv ops)[Zkx iv i]? = none := by
  rw [Zwv h hi]
  simp only [Zfp,List.getElem?_toArray,List.getElem?_map]
  rw [List.getElem?_eq_none (by rw [(Zby h).1]; exact hi)]
  rfl
theorem Zfo {pm iv : List Nat} {ops : Array Oper} (h : Wf pm iv ops.size = true) : (Zfp pm iv ops).size = ops.size := by
  simp [Zfp,(Zby h).1]
theorem Zru {pm iv : List Nat} {ops : Array Oper} (h : Wf pm iv ops.size = true) (ts : Array Value) (j : Nat) : yielded (Zfp pm iv ops) ts (Zkx iv j) = yielded ops ts j := by
  unfold yielded
  by_cases hj : j < ops.size
  · rw [Zie h hj]
    have : ops[j]? = some ops[j] := by simp [hj]
    rw [this]
    rfl
  · rw [Z0m h (by omega)]
    have : ops[j]? = none := by simp; omega
    rw [this]
theorem Zl9 {pm iv : List Nat} {ops : Array Oper} (h : Wf pm iv ops.size = true) (ts : Array Value) (o : Oper) : Region.wanted (Zn2 iv o) (yielded (Zfp pm iv ops) ts) = Region.wanted o (yielded ops ts) := by
  unfold Region.wanted Zn2
  cases hg : o.guard with
  | none => rfl
  | some p =>
    obtain ⟨j,b⟩ := p
    simp only [Option.map_some,Zru h]
theorem Zzz {P : Program} {Q : Exit → Act → World → Prop} {pm iv : List Nat} {ops : Array Oper} (h : Wf pm iv ops.size = true) {i : Nat} (hi : i < ops.size) {K : Act → World → Prop} {a : Act} {w : World} (hw : wpOp P (Zfp pm iv ops) Q (Zkx iv i) K a w) : wpOp P ops Q i K a w := by
  unfold wpOp at hw ⊢
  have e : ops[i]? = some ops[i] := by simp [hi]
  rw [Zie h hi] at hw
  rw [e]
  simp only [Zl9 h] at hw
  exact hw
theorem Zgd {pm iv : List Nat} {ops : Array Oper} (h : Wf pm iv ops.size = true) {ls ls' : Array Bool} (hs : ls.size = ops.size) (hs' : ls'.size = ops.size) (hl : ∀ k,k < ops.size → ls'[Zkx iv k]? = ls[k]?) {i : Nat} (hi : i ∈ Region.ready .any ops ls) : Zkx iv i ∈ Region.ready .any (Zfp pm iv ops) ls' := by
  unfold Region.ready at hi ⊢
  rw [List.mem_filter,List.mem_range] at hi ⊢
  obtain ⟨hlt,hc⟩ := hi
  have e : ops[i]? = some ops[i] := by simp [hlt]
  have hr := (UZ h hlt).2
  rw [← Zcs h hlt] at hr
  refine ⟨by rw [Zfo h]; exact hr, ?_⟩
  rw [Zie h hlt]
  rw [e] at hc
  simp only [Option.map_some,Option.getD_some,Bool.and_eq_true,Bool.not_eq_true',Array.all_eq_true',Bool.or_eq_true] at hc ⊢
  have gd : ∀ k d,k < ops.size → ls'.getD (Zkx iv k) d = ls.getD k d := fun k d hk => by
    have := hl k hk
    rw [Array.getD_eq_getD_getElem?,Array.getD_eq_getD_getElem?,this]
  refine ⟨by rw [gd i true hlt]; exact hc.1,fun e he => ?_⟩
  simp only [Zn2,Array.mem_map] at he
  obtain ⟨e0,he0,rfl⟩ := he
  rcases hc.2 e0 he0 with hb | hb
  · exact .inl hb
  · by_cases hk : e0.on < ops.size
    · exact .inr (by show ls'.getD (Zkx iv e0.on) false = true; rw [gd _ false hk]; exact hb)
    · exfalso
      rw [Array.getD_eq_getD_getElem?,Array.getElem?_eq_none (by omega)] at hb
      cases hb
theorem Zwh {P : Program} {Q : Exit → Act → World → Prop} {pm iv : List Nat} {ops : Array Oper} (h : Wf pm iv ops.size = true) : ∀ (fuel : Nat) (ls ls' : Array Bool) (a : Act) (w : World),ls.size = ops.size → ls'.size = ops.size → (∀ k,k < ops.size → ls'[Zkx iv k]? = ls[k]?) →
    wpAny P .any (Zfp pm iv ops) Q fuel ls' a w → wpAny P .any ops Q fuel ls a w := by
  have back : ∀ (ls ls' : Array Bool),ls.size = ops.size → ls'.size = ops.size → (∀ k,k < ops.size → ls'[Zkx iv k]? = ls[k]?) → Region.ready .any ops ls = [] → Region.ready .any (Zfp pm iv ops) ls' = [] := by
    intro ls ls' hs hs' hl h0
    refine List.eq_nil_iff_forall_not_mem.2 fun k hk => ?_
    have hk' := hk
    unfold Region.ready at hk
    rw [List.mem_filter,List.mem_range,Zfo h] at hk
    obtain ⟨hlt,hc⟩ := hk
    have hi := (UZ h hlt).1
    obtain ⟨h1,h2⟩ := Zaa h hlt
    have er : Zkx iv (pm.getD k ops.size) = k := by rw [Zcs h hi]; exact h1
    rw [← er,Zie h hi,er] at hc
    simp only [Option.map_some,Option.getD_some,Bool.and_eq_true,Bool.not_eq_true',Array.all_eq_true',Bool.or_eq_true] at hc
    have gd : ∀ k d,k < ops.size → ls'.getD (Zkx iv k) d = ls.getD k d := fun k d hk => by
      have := hl k hk
      rw [Array.getD_eq_getD_getElem?,Array.getD_eq_getD_getElem?,this]
    have : pm.getD k ops.size ∈ Region.ready .any ops ls := by
      unfold Region.ready
      rw [List.mem_filter,List.mem_range]
      refine ⟨hi, ?_⟩
      have e : ops[pm.getD k ops.size]? = some ops[pm.getD k ops.size] := by simp [hi]
      rw [e]
      simp only [Option.map_some,Option.getD_some,Bool.and_eq_true,Bool.not_eq_true',Array.all_eq_true',Bool.or_eq_true]
      refine ⟨by rw [← gd _ true hi,er]; exact hc.1,fun e0 he0 => ?_⟩
      rcases hc.2 (Zsa iv e0) (by simp only [Zn2,Array.mem_map]; exact ⟨e0,he0,rfl⟩) with hb | hb
      · exact .inl hb
      · by_cases hk : e0.on < ops.size
        · exact .inr (by rw [← gd _ false hk]; exact hb)
        · exfalso
          have hb : ls'.getD (Zkx iv e0.on) false = true := hb
          rw [Zwv h (by omega),Array.getD_eq_getD_getElem?,Array.getElem?_eq_none (by omega)] at hb
          cases hb
    rw [h0] at this
    cases this
  intro fuel
  induction fuel with
  | zero =>
    intro ls ls' a w hs hs' hl hw
    refine ⟨List.eq_nil_iff_forall_not_mem.2 fun i hi => ?_,hw.2⟩
    have := Zgd h hs hs' hl hi
    rw [hw.1] at this
    cases this
  | succ fuel ih =>
    intro ls ls' a w hs hs' hl hw
    refine ⟨fun h0 => hw.1 (back ls ls' hs hs' hl h0),fun i hi => ?_⟩
    have hlt : i < ops.size := by
      unfold Region.ready at hi
      rw [List.mem_filter,List.mem_range] at hi
      exact hi.1
    refine Zzz h hlt (wpOp_mono (fun a' w' hk => ih _ _ a' w' (by simpa using hs) (by simpa using hs') (fun k hk' => ?_) hk) (hw.2 _ (Zgd h hs hs' hl hi)))
    have hri := (UZ h hlt).2
    rw [← Zcs h hlt] at hri
    by_cases hki : k = i
    · subst hki
      simp [hs,hs',hlt,hri]
    · have hne : Zkx iv i ≠ Zkx iv k := fun e => by
        rw [Zcs h hlt,Zcs h hk'] at e
        have h1 := (Zaa h hlt).2
        have h2 := (Zaa h hk').2
        rw [e,h2] at h1
        exact hki h1
      rw [Array.getElem?_setIfInBounds_ne hne,Array.getElem?_setIfInBounds_ne (fun e => hki e.symm)]
      exact hl k hk'
theorem Zg5 {P : Program} {Q : Exit → Act → World → Prop} {ops ops' : Array Oper} {id : Nat} {a : Act} {w : World} (hm : P.follows .mixedOrders = true) (hp : ops' = ops ∨ ∃ pm iv,Wf pm iv ops.size = true ∧ ops' = Zfp pm iv ops)
    (h : wpAny P .any ops' Q ops'.size (Array.replicate ops'.size false) a { w with drawn := w.drawn + 1 }) : (Code.region id ops true).wp P Q a w := by
  rcases hp with rfl | ⟨pm,iv,hok,rfl⟩
  · exact wp_region_any hm h
  · refine wp_region_any hm ?_
    rw [Zfo hok] at h
    refine Zwh hok _ _ _ _ _ (by simp) (by simp) (fun k hk => ?_) h
    have := (UZ hok hk).2
    rw [← Zcs hok hk] at this
    simp [Array.getElem?_replicate,hk,this]
theorem Zvs {P : Program} {glob : Nat → Option (List D)} {N : Nat} {E : Env} (hE : E.P = P) (hm : P.follows .mixedOrders = true) : Zzw P glob N E := by
  intro call hcall hcg id ops0 ops l a h r a' h' hp hc hd hrun top g w A Q htop hr hA hg hQ
  cases r with
  | panic d =>
    obtain ⟨B,aT,hT,rT,c,hR,hB,e1,e2,e3,e4,e5,e6,e7,e8,e9,e10⟩ := Run.of_pan hcg hc hd hrun
    subst e1 e2 e4
    refine Zg5 hm hp ?_
    have hD : Zrt (hT 0) := hr.dom
    have hnl : ∀ j,¬ YL (Array.replicate ops.size false) j := fun j hj => by
      have := hj.2
      simp [Array.getElem?_replicate] at this
      split at this <;> simp at this
    have hw : ({ w with drawn := w.drawn + 1 } : World).heap = w.heap := rfl
    refine Z9h hE hcall hR (w0 := w) hr hg hB e5 e6 e7 e8 e9 e10 htop (fun w' g' A' v hX hR' hA' hV => hQ w' g' A' _ hX hR' hA' ⟨v,rfl,hV⟩) ops.size _ (g := g) (mem := (hT 0).mem.get) (aS := aT 0) (by simp) ?_ ⟨⟨fun j hj => absurd hj (hnl j),fun j hj => absurd hj (hnl j),fun u hu k m hcv => ?_,fun k hk => ?_⟩,hr.toC.world hw,hA, ?_,fun k hk hno => ?_,fun t m hm' hwr => ?_,rfl⟩
    · unfold Xq
      exact Nat.le_trans (List.length_filter_le _ _) (by simp)
    · rcases hcv with ⟨h1,h2⟩ | ⟨j,_,_,h3,_⟩
      · subst h1
        rw [Nat.max_eq_left (Nat.zero_le _)]
        refine (hR.quiet (Nat.zero_le _) hu.le (fun j _ hj hl => hnl j (hu.done j hj hl)) h2).symm
      · exact absurd h3 (hnl j)
    · refine hD k (Nat.le_of_not_lt fun h1 => hk 0 (.inl ⟨rfl,h1⟩))
    · have hG := hR.growth (Nat.zero_le _) (Nat.le_refl B)
      exact ⟨.refl g,fun _ _ x => x,fun _ _ => rfl,rfl,rfl,rfl,Nat.le_refl _,fun _ _ _ => rfl,hG.old,hG.next,fun _ x _ => x,fun _ _ _ _ => rfl,fun _ _ _ _ => rfl⟩
    · exact hr.name k (Nat.le_of_not_lt fun h1 => hno 0 (.inl ⟨rfl,h1⟩)) hk
    · refine (hR.keepTmp (Nat.zero_le _) hm' fun k c _ hkm hck hd' => ?_).symm
      exact hnl k ((hwr k c hck hd').2 hkm)
  | exit e =>
  obtain ⟨rfl,aT,hT,rT,hR,e1,e2,e3,e4,e5⟩ := Run.of hcg hc hd hrun
  subst e1 e2 e4 e5
  refine Zg5 hm hp ?_
  have hD : Zrt (hT 0) := hr.dom
  have hnl : ∀ j,¬ YL (Array.replicate ops.size false) j := fun j hj => by
    have := hj.2
    simp [Array.getElem?_replicate] at this
    split at this <;> simp at this
  have hw : ({ w with drawn := w.drawn + 1 } : World).heap = w.heap := rfl
  refine Z9g hE hcall hR (w0 := w) hr htop hg (fun w' g' A' hX hR' hA' => hQ w' g' A' .normal hX hR' hA' rfl) ops.size _ (g := g) (mem := (hT 0).mem.get) (aS := aT 0) (by simp) ?_ ⟨⟨fun j hj => absurd hj (hnl j),fun j hj => absurd hj (hnl j),fun u hu k m hcv => ?_,fun k hk => ?_⟩,hr.toC.world hw,hA, ?_,fun k hk hno => ?_,fun t m hm' hwr => ?_,rfl⟩
  · unfold Xq
    exact Nat.le_trans (List.length_filter_le _ _) (by simp)
  · rcases hcv with ⟨h1,h2⟩ | ⟨j,_,_,h3,_⟩
    · subst h1
      rw [Nat.max_eq_left (Nat.zero_le _)]
      refine (hR.quiet (Nat.zero_le _) hu.le (fun j _ hj hl => hnl j (hu.done j hj hl)) h2).symm
    · exact absurd h3 (hnl j)
  · refine hD k (Nat.le_of_not_lt fun h1 => hk 0 (.inl ⟨rfl,h1⟩))
  · have hG := hR.growth (Nat.zero_le _) (Nat.le_refl ops.size)
    exact ⟨.refl g,fun _ _ x => x,fun _ _ => rfl,rfl,rfl,rfl,Nat.le_refl _,fun _ _ _ => rfl,hG.old,hG.next,fun _ x _ => x,fun _ _ _ _ => rfl,fun _ _ _ _ => rfl⟩
  · exact hr.name k (Nat.le_of_not_lt fun h1 => hno 0 (.inl ⟨rfl,h1⟩)) hk
  · refine (hR.keepTmp (Nat.zero_le _) hm' fun k c _ hkm hck hd' => ?_).symm
    exact hnl k ((hwr k c hck hd').2 hkm)
end
end Go.Abs
