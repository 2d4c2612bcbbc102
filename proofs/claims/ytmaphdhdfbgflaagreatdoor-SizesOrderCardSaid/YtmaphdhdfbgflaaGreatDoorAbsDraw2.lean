/- Towards regions in open order: the trace of the reckoner's run. -/
import Derived.Test.YtmaphdhdfbgflaaGreatDoorAbsDraw1
set_option linter.unusedVariables false
namespace Go.Abs

/-- One step of the run. -/
inductive StepOk (E : Env) (call : Call) (idx : Nat) (inc : List Nat) (o : CO) (a : AAct) (h : H) (rs : List Rec) (a' : AAct) (h' : H) (rs' : List Rec) : Prop
  | skip : awanted a o = false → a' = a.put o.dst undefD → h' = h → rs' = rs → StepOk E call idx inc o a h rs a' h' rs'
  | read (d x : D) (k : Nat) (cs : List D) : awanted a o = true → crun E call a o.op h = .ok d h' → a' = a.put o.dst d → readsOf a o.op = some (x, k) → readCells h x k = some cs → readOk inc x cs rs = true → rs' = .rd idx x cs :: rs →
      StepOk E call idx inc o a h rs a' h' rs'
  | loud (d : D) : awanted a o = true → crun E call a o.op h = .ok d h' → a' = a.put o.dst d → readsOf a o.op = none → isLoud o.op = true → loudOk inc h' rs = true → rs' = .loud idx h :: rs → StepOk E call idx inc o a h rs a' h' rs'
  | quiet (d : D) : awanted a o = true → crun E call a o.op h = .ok d h' → a' = a.put o.dst d → readsOf a o.op = none → isLoud o.op = false → rs' = rs → StepOk E call idx inc o a h rs a' h' rs'

theorem trace_of {E : Env} {call : Call} : ∀ (l : List CO) (i : Nat) (recs : List Rec) (incs : List (List Nat)) {a a' : AAct} {h h' : H} {e : AExit}, cdraw E call i recs incs l a h = .out e a' h' →
    e = .normal ∧ ∃ (aT : Nat → AAct) (hT : Nat → H) (rT : Nat → List Rec), aT 0 = a ∧ hT 0 = h ∧ rT 0 = recs ∧ aT l.length = a' ∧ hT l.length = h' ∧
      ∀ j o, l[j]? = some o → StepOk E call (i + j) (incs.getD j []) o (aT j) (hT j) (rT j) (aT (j + 1)) (hT (j + 1)) (rT (j + 1))
  | [], i, recs, incs, a, a', h, h', e, hrun => by
    simp only [cdraw] at hrun
    cases hrun
    exact ⟨rfl, fun _ => a, fun _ => h, fun _ => recs, rfl, rfl, rfl, rfl, rfl, fun j o hj => by simp at hj⟩
  | o :: l, i, recs, [], a, a', h, h', e, hrun => by simp only [cdraw] at hrun; cases hrun
  | o :: l, i, recs, inc :: incs, a, a', h, h', e, hrun => by
    have glue : ∀ {a1 : AAct} {h1 : H} {r1 : List Rec}, StepOk E call i inc o a h recs a1 h1 r1 → cdraw E call (i + 1) r1 incs l a1 h1 = .out e a' h' →
        e = .normal ∧ ∃ (aT : Nat → AAct) (hT : Nat → H) (rT : Nat → List Rec), aT 0 = a ∧ hT 0 = h ∧ rT 0 = recs ∧ aT (o :: l).length = a' ∧ hT (o :: l).length = h' ∧
          ∀ j o', (o :: l)[j]? = some o' → StepOk E call (i + j) ((inc :: incs).getD j []) o' (aT j) (hT j) (rT j) (aT (j + 1)) (hT (j + 1)) (rT (j + 1)) := by
      intro a1 h1 r1 hs hr
      obtain ⟨he, aT, hT, rT, e1, e2, e3, e4, e5, hall⟩ := trace_of l (i + 1) r1 incs hr
      refine ⟨he, fun k => match k with | 0 => a | k + 1 => aT k, fun k => match k with | 0 => h | k + 1 => hT k, fun k => match k with | 0 => recs | k + 1 => rT k, rfl, rfl, rfl, e4, e5, fun j o' hj => ?_⟩
      cases j with
      | zero =>
        simp at hj; subst hj
        simp only [e1, e2, e3]
        exact hs
      | succ j =>
        have := hall j o' (by simpa using hj)
        rw [show i + (j + 1) = i + 1 + j by omega]
        exact this
    simp only [cdraw, Bool.cond_eq_ite] at hrun
    split at hrun
    · rename_i hw
      split at hrun
      · rename_i d h2 hc
        split at hrun
        · rename_i x k hrd
          split at hrun
          · rename_i cs hcs
            split at hrun
            · rename_i hok
              exact glue (.read d x k cs hw hc rfl hrd hcs hok rfl) hrun
            · cases hrun
          · cases hrun
        · rename_i hrd
          split at hrun
          · rename_i hl
            split at hrun
            · rename_i hok
              exact glue (.loud d hw hc rfl hrd hl hok rfl) hrun
            · cases hrun
          · rename_i hl
            exact glue (.quiet d hw hc rfl hrd (by simpa using hl) rfl) hrun
      · cases hrun
      · cases hrun
    · rename_i hw
      exact glue (.skip (by simpa using hw) rfl rfl rfl) hrun

/-- What is read leaves the memory. -/
theorem den_reads {c : COp} {E : Env} {call : Call} {a : AAct} {h h' : H} {d : D} (hk : kindC c = .load ∨ kindC c = .reads) (hrun : den c E call a h = .ok d h') : h' = h := by
  cases c <;> simp only [kindC, reduceCtorEq, or_self, or_false, false_or] at hk
  all_goals
    simp only [den, r_ld1, r_ldN, r_b2s, r_look, r_lookV, r_lenm, Bool.cond_eq_ite] at hrun
    repeat' split at hrun
  all_goals first | (cases hrun; done) | (cases hrun; rfl)

theorem readOk_mem {inc : List Nat} {x : D} {cs : List D} : ∀ {rs : List Rec}, readOk inc x cs rs = true → ∀ i h, Rec.loud i h ∈ rs → mem? i inc = true → ∃ ds, readCells h x cs.length = some ds ∧ sames cs ds = true
  | [], _, i, h, hm, _ => by simp at hm
  | r :: rs, hok, i, h, hm, hi => by
    cases r with
    | rd j y ys =>
      simp only [readOk] at hok
      simp at hm
      exact readOk_mem hok i h hm hi
    | loud j k =>
      simp only [readOk, Bool.and_eq_true] at hok
      simp at hm
      rcases hm with ⟨rfl, rfl⟩ | hm
      · have h1 := hok.1
        rw [hi] at h1
        simp only [Bool.not_true, Bool.false_or] at h1
        split at h1
        · rename_i ds hds; exact ⟨ds, hds, h1⟩
        · cases h1
      · exact readOk_mem hok.2 i h hm hi
theorem loudOk_mem {inc : List Nat} {h : H} : ∀ {rs : List Rec}, loudOk inc h rs = true → ∀ i x cs, Rec.rd i x cs ∈ rs → mem? i inc = true → ∃ ds, readCells h x cs.length = some ds ∧ sames cs ds = true
  | [], _, i, x, cs, hm, _ => by simp at hm
  | r :: rs, hok, i, x, cs, hm, hi => by
    cases r with
    | loud j k =>
      simp only [loudOk] at hok
      simp at hm
      exact loudOk_mem hok i x cs hm hi
    | rd j y ys =>
      simp only [loudOk, Bool.and_eq_true] at hok
      simp at hm
      rcases hm with ⟨rfl, rfl, rfl⟩ | hm
      · have h1 := hok.1
        rw [hi] at h1
        simp only [Bool.not_true, Bool.false_or] at h1
        split at h1
        · rename_i ds hds; exact ⟨ds, hds, h1⟩
        · cases h1
      · exact loudOk_mem hok.2 i x cs hm hi

theorem sameV_eq {a b : Value} (hs : sameV a b = true) : a = b := by
  unfold sameV at hs
  split at hs
  · simp only [Bool.and_eq_true] at hs; rw [Nat.eq_of_beq_eq_true hs.1, Nat.eq_of_beq_eq_true hs.2]
  · rfl
  · rfl
  · rfl
  · rfl
  · rename_i x y; cases x <;> cases y <;> simp_all
  · cases hs
theorem beqL_imp : ∀ {a b : List Nat}, beqL a b = true → a = b
  | [], [], _ => rfl
  | [], y :: b, h => by simp [beqL] at h
  | x :: a, [], h => by simp [beqL] at h
  | x :: a, y :: b, h => by
    simp only [beqL, Bool.and_eq_true] at h
    rw [Nat.eq_of_beq_eq_true h.1, beqL_imp h.2]
mutual
theorem same_eq : ∀ {a b : D}, D.same a b = true → a = b
  | .v a, b, hs => by cases b <;> simp only [D.same] at hs <;> first | (cases hs; done) | rw [sameV_eq hs]
  | .int k a, b, hs => by cases b <;> simp only [D.same, Bool.and_eq_true, decide_eq_true_eq] at hs <;> first | (cases hs; done) | rw [hs.1, hs.2]
  | .str a, b, hs => by cases b <;> simp only [D.same] at hs <;> first | (cases hs; done) | rw [beqL_imp hs]
  | .ptr a c, b, hs => by cases b <;> simp only [D.same, Bool.and_eq_true] at hs <;> first | (cases hs; done) | rw [Nat.eq_of_beq_eq_true hs.1, Nat.eq_of_beq_eq_true hs.2]
  | .ep xs, b, hs => by cases b <;> simp only [D.same] at hs <;> first | (cases hs; done) | rw [sames_eq hs]
  | .row a c d e, b, hs => by cases b <;> simp only [D.same, Bool.and_eq_true] at hs <;> first | (cases hs; done) | rw [Nat.eq_of_beq_eq_true hs.1.1.1, Nat.eq_of_beq_eq_true hs.1.1.2, Nat.eq_of_beq_eq_true hs.1.2, Nat.eq_of_beq_eq_true hs.2]
  | .map a, b, hs => by cases b <;> simp only [D.same] at hs <;> first | (cases hs; done) | rw [Nat.eq_of_beq_eq_true hs]
  | .sl i n xs, b, hs => by cases b <;> simp only [D.same, Bool.and_eq_true] at hs <;> first | (cases hs; done) | rw [Nat.eq_of_beq_eq_true hs.1.1, Nat.eq_of_beq_eq_true hs.1.2, sames_eq hs.2]
  | .agg xs, b, hs => by cases b <;> simp only [D.same] at hs <;> first | (cases hs; done) | rw [sames_eq hs]
  | .tup xs, b, hs => by cases b <;> simp only [D.same] at hs <;> first | (cases hs; done) | rw [sames_eq hs]
  | .func _ _ _, b, hs => by cases b <;> simp only [D.same] at hs <;> cases hs
  | .iface t a, b, hs => by cases b <;> simp only [D.same, Bool.and_eq_true] at hs <;> first | (cases hs; done) | rw [Nat.eq_of_beq_eq_true hs.1, same_eq hs.2]
theorem sames_eq : ∀ {xs ys : List D}, sames xs ys = true → xs = ys
  | [], ys, hs => by cases ys <;> simp only [sames] at hs <;> first | rfl | cases hs
  | x :: xs, ys, hs => by
    cases ys with
    | nil => simp only [sames] at hs; cases hs
    | cons y ys =>
      simp only [sames, Bool.and_eq_true] at hs
      rw [same_eq hs.1, sames_eq hs.2]
end
end Go.Abs
