/- Towards regions in open order: what the reckoner's run of a region says. -/
import Derived.Test.YtmaphdhdfbgflaaGreatDoorAbsDraw2
import Derived.Test.YtmaphdhdfbgflaaGreatDoorAbsDom
import Derived.Test.YtmaphdhdfbgflaaGreatDoorAbsCode
set_option linter.unusedVariables false
namespace Go.Abs

def incAt (ops : Array Oper) (j : Nat) : List Nat := (incs ops).getD j []

/-- A region that is open, and the reckoner's run of it. -/
structure Run (P : Program) (glob : Nat → Option (List D)) (N : Nat) (E : Env) (call : Call) (ops : Array Oper) (l : List CO) (aT : Nat → AAct) (hT : Nat → H) (rT : Nat → List Rec) : Prop where
  len : l.length = ops.size
  op : ∀ (j : Nat) (o : Oper), ops[j]? = some o → ∃ gd q, l[j]? = some (CO.mk o.dst gd q) ∧ cguard ops.toList o = some gd ∧ cop P glob o = some q ∧ dstOk N o.dst = true
  edge : ∀ (j : Nat) (o : Oper), ops[j]? = some o → ∀ e ∈ o.after, Region.binds .any e = true → e.on < j
  pair : ∀ (i j : Nat) (x y : CO) (o : Oper), i < j → l[i]? = some x → l[j]? = some y → ops[j]? = some o → (mem? i (incAt ops j) = true → openOk (kindC x.op) (kindC y.op) = true ∧ apartC x y = true) ∧ (mem? i (incAt ops j) = false → below (incs ops) i j o = true)
  step : ∀ (j : Nat) (c : CO), l[j]? = some c → StepOk E call j (incAt ops j) c (aT j) (hT j) (rT j) (aT (j + 1)) (hT (j + 1)) (rT (j + 1))
  grow : CallGrow call

theorem cops_at {P : Program} {glob : Nat → Option (List D)} {N : Nat} {all : List Oper} : ∀ {ol : List Oper} {l : List CO}, cops P glob N all ol = some l →
    l.length = ol.length ∧ ∀ (j : Nat) (o : Oper), ol[j]? = some o → ∃ gd q, l[j]? = some (CO.mk o.dst gd q) ∧ cguard all o = some gd ∧ cop P glob o = some q ∧ dstOk N o.dst = true
  | [], l, hc => by simp [cops] at hc; subst hc; exact ⟨rfl, fun j o h => by simp at h⟩
  | o :: ol, l, hc => by
    simp only [cops] at hc
    split at hc
    · rename_i gd c r h1 h2 h3
      cases hd : dstOk N o.dst with
      | false => rw [hd] at hc; cases hc
      | true =>
        rw [hd] at hc
        cases hc
        obtain ⟨h4, h5⟩ := cops_at h3
        refine ⟨by simp [h4], fun j o' hj => ?_⟩
        cases j with
        | zero => simp at hj; subst hj; exact ⟨gd, c, rfl, h1, h2, hd⟩
        | succ j => exact h5 j o' (by simpa using hj)
    · cases hc

theorem Run.of {P : Program} {glob : Nat → Option (List D)} {N : Nat} {E : Env} {call : Call} {ops : Array Oper} {l : List CO} {a a' : AAct} {h h' : H} {e : AExit} (hcg : CallGrow call) (hc : cops P glob N ops.toList ops.toList = some l) (hd : drawOk ops.toList l (incs ops) = true)
    (hrun : cdraw E call 0 [] (incs ops) l a h = .out e a' h') : e = .normal ∧ ∃ aT hT rT, Run P glob N E call ops l aT hT rT ∧ aT 0 = a ∧ hT 0 = h ∧ rT 0 = [] ∧ aT ops.size = a' ∧ hT ops.size = h' := by
  obtain ⟨he, aT, hT, rT, e1, e2, e3, e4, e5, hst⟩ := trace_of l 0 [] (incs ops) hrun
  obtain ⟨hl, hop⟩ := cops_at hc
  have hlen : l.length = ops.size := by simpa using hl
  rw [hlen] at e4 e5
  have hall : ∀ (j : Nat) (o : Oper), ops[j]? = some o → (o.after.toList.all fun e => !Region.binds .any e || Nat.blt e.on j) = true ∧ ((List.range j).all fun i => pairOk l (incs ops) i j o) = true := by
    intro j o hj
    unfold drawOk at hd
    rw [List.all_eq_true] at hd
    have := hd (o, j) (by
      rw [List.mem_iff_getElem?]
      exact ⟨j, by simp [List.getElem?_zipIdx, hj]⟩)
    simpa only [Bool.and_eq_true] using this
  refine ⟨he, aT, hT, rT, ⟨hlen, fun j o hj => hop j o (by simpa using hj), fun j o hj e hem hb => ?_, fun i j x y o hij hx hy hj => ?_, fun j c hj => ?_, hcg⟩, e1, e2, e3, e4, e5⟩
  · have h1 := (hall j o hj).1
    rw [List.all_eq_true] at h1
    have h2 := h1 e (by simpa using hem)
    rw [hb] at h2
    have h3 : e.on + 1 ≤ j := by simpa [Nat.blt] using h2
    omega
  · have h1 := (hall j o hj).2
    rw [List.all_eq_true] at h1
    have h2 := h1 i (by simpa using hij)
    unfold pairOk at h2
    rw [hx, hy] at h2
    simp only at h2
    refine ⟨fun hm => ?_, fun hm => ?_⟩
    · unfold incAt at hm
      rw [hm] at h2
      simpa using h2
    · unfold incAt at hm
      rw [hm] at h2
      exact h2
  · have := hst j c hj
    rw [Nat.zero_add] at this
    exact this

theorem kind_cases (q : COp) : isLoud q = true ∨ kindC q = .pure ∨ kindC q = .alloc ∨ kindC q = .load ∨ kindC q = .reads := by
  cases q <;> simp [isLoud, kindC]
theorem loud_kind {q : COp} (h : isLoud q = true) : kindC q = .loud ∨ kindC q = .bad := by
  cases q <;> simp [isLoud] at h <;> simp [kindC]
theorem kind_not_loud {q : COp} (h : kindC q = .pure ∨ kindC q = .alloc ∨ kindC q = .load ∨ kindC q = .reads) : isLoud q = false := by
  cases q <;> simp [kindC] at h <;> rfl
theorem open_loud_loud {x y : COp} (h : openOk (kindC x) (kindC y) = true) (hx : isLoud x = true) (hy : isLoud y = true) : False := by
  rcases loud_kind hx with h1 | h1 <;> rcases loud_kind hy with h2 | h2 <;> rw [h1, h2] at h <;> simp [openOk] at h
theorem open_alloc_loud {x y : COp} (h : openOk (kindC x) (kindC y) = true) (hx : kindC x = .alloc) (hy : isLoud y = true) : False := by
  rcases loud_kind hy with h2 | h2 <;> rw [hx, h2] at h <;> simp [openOk] at h
theorem open_alloc_reads {x y : COp} (h : openOk (kindC x) (kindC y) = true) (hx : kindC x = .alloc) (hy : kindC y = .reads) : False := by
  rw [hx, hy] at h; simp [openOk] at h
theorem open_loud_reads {x y : COp} (h : openOk (kindC x) (kindC y) = true) (hx : isLoud x = true) (hy : kindC y = .reads) : False := by
  rcases loud_kind hx with h2 | h2 <;> rw [hy, h2] at h <;> simp [openOk] at h
theorem open_reads_loud {x y : COp} (h : openOk (kindC x) (kindC y) = true) (hx : kindC x = .reads) (hy : isLoud y = true) : False := by
  rcases loud_kind hy with h2 | h2 <;> rw [hx, h2] at h <;> simp [openOk] at h
theorem load_reads {q : COp} (a : AAct) (h : kindC q = .load) : ∃ x k, readsOf a q = some (x, k) ∧ ∀ E call K h' cs d, readCells K x k = some cs → readCells h' x k = some cs → den q E call a h' = .ok d h' → den q E call a K = .ok d K := by
  cases q <;> simp [kindC] at h
  case ld1 x =>
    refine ⟨_, _, rfl, fun E call K h' cs d h1 h2 h3 => ?_⟩
    simp only [den, r_ld1] at h3 ⊢
    rw [h2] at h3
    rw [h1]
    split at h3
    · rename_i d' he; cases he; cases h3; rfl
    · cases h3
  case ldN n x =>
    refine ⟨_, _, rfl, fun E call K h' cs d h1 h2 h3 => ?_⟩
    simp only [den, r_ldN] at h3 ⊢
    rw [h2] at h3
    rw [h1]
    cases h3; rfl
theorem readsOf_load {q : COp} {a : AAct} {p : D × Nat} (h : readsOf a q = some p) : kindC q = .load := by
  cases q <;> simp [readsOf] at h <;> rfl

section
variable {P : Program} {glob : Nat → Option (List D)} {N : Nat} {E : Env} {call : Call} {ops : Array Oper} {l : List CO} {aT : Nat → AAct} {hT : Nat → H} {rT : Nat → List Rec}

/-- An operation that is done, and may change what others read. -/
def LoudAt (l : List CO) (aT : Nat → AAct) (j : Nat) : Prop := ∃ c, l[j]? = some c ∧ awanted (aT j) c = true ∧ isLoud c.op = true

theorem Run.at (hR : Run P glob N E call ops l aT hT rT) {j : Nat} (hj : j < ops.size) : ∃ o gd q, ops[j]? = some o ∧ l[j]? = some (CO.mk o.dst gd q) ∧ cguard ops.toList o = some gd ∧ cop P glob o = some q ∧ dstOk N o.dst = true := by
  obtain ⟨gd, q, h⟩ := hR.op j ops[j] (by simp [hj])
  exact ⟨ops[j], gd, q, by simp [hj], h⟩

theorem Run.stepGrow (hR : Run P glob N E call ops l aT hT rT) {j : Nat} (hj : j < ops.size) : Grow (hT j) (hT (j + 1)) := by
  obtain ⟨o, gd, q, h1, h2, _⟩ := hR.at hj
  cases hR.step j _ h2 with
  | skip _ _ e _ => rw [e]; exact .refl _
  | read d x k cs _ hc => exact den_dom hR.grow hc
  | loud d _ hc => exact den_dom hR.grow hc
  | quiet d _ hc => exact den_dom hR.grow hc
theorem Run.growth (hR : Run P glob N E call ops l aT hT rT) {i : Nat} : ∀ {j : Nat}, i ≤ j → j ≤ ops.size → Grow (hT i) (hT j)
  | 0, hij, _ => by have : i = 0 := by omega
                    subst this; exact .refl _
  | j + 1, hij, hj => by
    by_cases e : i = j + 1
    · subst e; exact .refl _
    · exact (hR.growth (by omega) (by omega)).trans (hR.stepGrow (by omega))
theorem Run.nx (hR : Run P glob N E call ops l aT hT rT) {i j : Nat} (hij : i ≤ j) (hj : j ≤ ops.size) : (hT i).next ≤ (hT j).next := (hR.growth hij hj).next
theorem Run.dom (hR : Run P glob N E call ops l aT hT rT) (h0 : Dom (hT 0)) {j : Nat} (hj : j ≤ ops.size) : Dom (hT j) := (hR.growth (Nat.zero_le _) hj).dom h0

/-- A step that is not loud leaves what there was. -/
theorem Run.quiet1 (hR : Run P glob N E call ops l aT hT rT) {j : Nat} (hj : j < ops.size) (hn : ¬ LoudAt l aT j) {k : Nat} (hk : k < (hT j).next) : (hT (j + 1)).mem.get k = (hT j).mem.get k := by
  obtain ⟨o, gd, q, h1, h2, _⟩ := hR.at hj
  cases hR.step j _ h2 with
  | skip _ _ e _ => rw [e]
  | read d x n cs _ hc _ hrd => rw [den_reads (.inl (readsOf_load hrd)) hc]
  | loud d hw hc _ _ hl => exact absurd ⟨_, h2, hw, hl⟩ hn
  | quiet d hw hc _ _ hl =>
    rcases kind_cases q with h | h | h | h | h
    · rw [show isLoud q = false from hl] at h; cases h
    · obtain ⟨K', _, _, k3, k4, _⟩ := den_indep (.inl h) hc
      rw [k4 h]
    · obtain ⟨K', _, _, k3, k4, k5⟩ := den_indep (.inr h) hc
      rw [k5 k]
      cases hg : K'.mem.get k with
      | none => rfl
      | some o' => exact absurd (k3 k o' hg).1 (by omega)
    · rw [den_reads (.inl h) hc]
    · rw [den_reads (.inr h) hc]
theorem Run.quiet (hR : Run P glob N E call ops l aT hT rT) {i : Nat} : ∀ {j : Nat}, i ≤ j → j ≤ ops.size → (∀ m, i ≤ m → m < j → ¬ LoudAt l aT m) → ∀ {k : Nat}, k < (hT i).next → (hT j).mem.get k = (hT i).mem.get k
  | 0, hij, _, _, k, hk => by have : i = 0 := by omega
                              subst this; rfl
  | j + 1, hij, hj, hn, k, hk => by
    by_cases e : i = j + 1
    · subst e; rfl
    · rw [hR.quiet1 (by omega) (hn j (by omega) (by omega)) (Nat.lt_of_lt_of_le hk (hR.nx (by omega) (by omega))), hR.quiet (by omega) (by omega) (fun m h1 h2 => hn m h1 (by omega)) hk]
/-- Who makes names. -/
theorem Run.maker (hR : Run P glob N E call ops l aT hT rT) {j : Nat} (hj : j < ops.size) (hn : (hT j).next < (hT (j + 1)).next) : LoudAt l aT j ∨ ∃ c, l[j]? = some c ∧ kindC c.op = .alloc := by
  obtain ⟨o, gd, q, h1, h2, _⟩ := hR.at hj
  cases hR.step j _ h2 with
  | skip _ _ e _ => rw [e] at hn; omega
  | read d x n cs _ hc _ hrd => rw [den_reads (.inl (readsOf_load hrd)) hc] at hn; omega
  | loud d hw hc _ _ hl => exact .inl ⟨_, h2, hw, hl⟩
  | quiet d hw hc _ _ hl =>
    rcases kind_cases q with h | h | h | h | h
    · rw [show isLoud q = false from hl] at h; cases h
    · obtain ⟨K', _, _, k3, k4, _⟩ := den_indep (.inl h) hc
      rw [k4 h] at hn; omega
    · exact .inr ⟨_, h2, h⟩
    · rw [den_reads (.inl h) hc] at hn; omega
    · rw [den_reads (.inr h) hc] at hn; omega

/-- The records of the run. -/
theorem Run.kept (hR : Run P glob N E call ops l aT hT rT) : ∀ {m : Nat}, m ≤ ops.size → ∀ j, j < m → ∀ r, r ∈ rT (j + 1) → r ∈ rT m
  | 0, _, j, hj, r, hr => by omega
  | m + 1, hm, j, hj, r, hr => by
    by_cases e : j = m
    · subst e; exact hr
    · have h1 := hR.kept (m := m) (by omega) j (by omega) r hr
      obtain ⟨o, gd, q, _, h2, _⟩ := hR.at (j := m) (by omega)
      cases hR.step m _ h2 with
      | skip _ _ _ e => rw [e]; exact h1
      | read d x n cs _ _ _ _ _ _ e => rw [e]; exact List.mem_cons_of_mem _ h1
      | loud d _ _ _ _ _ _ e => rw [e]; exact List.mem_cons_of_mem _ h1
      | quiet d _ _ _ _ _ e => rw [e]; exact h1

/-- What a load reads is the same in front of, or behind, each loud operation that is open against it. -/
theorem Run.read_before (hR : Run P glob N E call ops l aT hT rT) {i k : Nat} (hki : k < i) (hi : i < ops.size) (hl : LoudAt l aT k) {c : CO} (hc : l[i]? = some c) (hw : awanted (aT i) c = true) {x : D} {n : Nat} (hx : readsOf (aT i) c.op = some (x, n)) (hm : mem? k (incAt ops i) = true) :
    ∃ cs, readCells (hT i) x n = some cs ∧ readCells (hT k) x n = some cs := by
  have hlk := hl
  obtain ⟨ck, hck, hwk, hlk⟩ := hlk
  have hrec : Rec.loud k (hT k) ∈ rT (k + 1) := by
    cases hR.step k _ hck with
    | skip hw' => rw [hwk] at hw'; cases hw'
    | read d x n cs _ _ _ hrd => rw [kind_not_loud (.inr (.inr (.inl (readsOf_load hrd))))] at hlk; cases hlk
    | loud d _ _ _ _ _ _ e => rw [e]; simp
    | quiet d _ _ _ _ hq => rw [hlk] at hq; cases hq
  have hrec' := hR.kept (m := i) (Nat.le_of_lt hi) k hki _ hrec
  cases hR.step i _ hc with
  | skip hw' => rw [hw] at hw'; cases hw'
  | read d y n' cs _ _ _ hrd hcs hok =>
    rw [hx] at hrd
    cases hrd
    obtain ⟨ds, h1, h2⟩ := readOk_mem hok k (hT k) hrec' hm
    have hlen : cs.length = n := by
      unfold readCells at hcs
      split at hcs
      · split at hcs
        · simp only [Bool.cond_eq_ite] at hcs; split at hcs
          · rename_i hb; cases hcs; exact Nat.eq_of_beq_eq_true hb
          · cases hcs
        · cases hcs
      · simp only [Bool.cond_eq_ite] at hcs; split at hcs
        · rename_i hb; cases hcs; exact Nat.eq_of_beq_eq_true hb
        · cases hcs
      · cases hcs
    rw [hlen] at h1
    exact ⟨cs, hcs, by rw [sames_eq h2]; exact h1⟩
  | loud d _ _ _ hrd => rw [hx] at hrd; cases hrd
  | quiet d _ _ _ hrd => rw [hx] at hrd; cases hrd
theorem Run.read_behind (hR : Run P glob N E call ops l aT hT rT) {i k : Nat} (hik : i < k) (hk : k < ops.size) (hl : LoudAt l aT k) {c : CO} (hc : l[i]? = some c) (hw : awanted (aT i) c = true) {x : D} {n : Nat} (hx : readsOf (aT i) c.op = some (x, n)) (hm : mem? i (incAt ops k) = true) :
    ∃ cs, readCells (hT i) x n = some cs ∧ readCells (hT (k + 1)) x n = some cs := by
  have hlk := hl
  obtain ⟨ck, hck, hwk, hlk⟩ := hlk
  have hsi := hR.step i _ hc
  cases hsi with
  | skip hw' => rw [hw] at hw'; cases hw'
  | loud d _ _ _ hrd => rw [hx] at hrd; cases hrd
  | quiet d _ _ _ hrd => rw [hx] at hrd; cases hrd
  | read d y n' cs _ _ _ hrd hcs hok e =>
    rw [hx] at hrd
    cases hrd
    have hrec : Rec.rd i x cs ∈ rT (i + 1) := by rw [e]; simp
    have hrec' := hR.kept (m := k) (Nat.le_of_lt hk) i hik _ hrec
    have hlen : cs.length = n := by
      unfold readCells at hcs
      split at hcs
      · split at hcs
        · simp only [Bool.cond_eq_ite] at hcs; split at hcs
          · rename_i hb; cases hcs; exact Nat.eq_of_beq_eq_true hb
          · cases hcs
        · cases hcs
      · simp only [Bool.cond_eq_ite] at hcs; split at hcs
        · rename_i hb; cases hcs; exact Nat.eq_of_beq_eq_true hb
        · cases hcs
      · cases hcs
    cases hR.step k _ hck with
    | skip hw' => rw [hwk] at hw'; cases hw'
    | read d x n cs _ _ _ hrd => rw [kind_not_loud (.inr (.inr (.inl (readsOf_load hrd))))] at hlk; cases hlk
    | quiet d _ _ _ _ hq => rw [hlk] at hq; cases hq
    | loud d' _ _ _ _ _ hlok =>
      obtain ⟨ds, h1, h2⟩ := loudOk_mem hlok i x cs hrec' hm
      rw [hlen] at h1
      exact ⟨cs, hcs, by rw [sames_eq h2]; exact h1⟩
end
end Go.Abs
