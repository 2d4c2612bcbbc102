/- The specifications of the parser in plain Lean: they go forward, and fuel enough is enough. -/
import Derived.Test.YtgpdodcbkajfgaaGreatDoorNeA
import Derived.Test.YtgpdodcbkajfgaaGreatDoorNeE
import Derived.Test.YtgpdodcbkajfgaaGreatDoorNeG
set_option linter.unusedVariables false
set_option linter.unusedSimpArgs false
namespace Go.Abs
namespace Run
def Ye (l : List Tok) : Prop := ∀ i, i < l.length → (Zp l i).k ≠ 3 → i + 1 < l.length
theorem Ye.t {l : List Tok} (hm : Ye l) {i : Nat} (hi : i < l.length) {s : List Nat} (h : isT (Zp l i) s) : i + 1 < l.length := hm i hi h.1
theorem Ye.n {l : List Tok} (hm : Ye l) {i : Nat} (hi : i < l.length) (h : isN (Zp l i)) : i + 1 < l.length := hm i hi (by rw [h.1]; decide)
theorem Ye.k {l : List Tok} (hm : Ye l) {i : Nat} (hi : i < l.length) {n : Nat} (h : (Zp l i).k = n) (hn : n ≠ 3) : i + 1 < l.length := hm i hi (by rw [h]; exact hn)
theorem expr_adv {l : List Tok} (hm : Ye l) : ∀ f : Nat,
    (∀ i dep es k j es', i < l.length → Wf l f i dep es = .ok (k, j, es') → i < j ∧ j < l.length) ∧
    (∀ lev i dep es k j es', i < l.length → Yt l f lev i dep es = .ok (k, j, es') → i < j ∧ j < l.length) ∧
    (∀ lev left i dep es k j es', i < l.length → loopS l f lev left i dep es = .ok (k, j, es') → i ≤ j ∧ j < l.length) := by
  intro f
  induction f with
  | zero => exact ⟨fun _ _ _ _ _ _ _ h => by simp [Wf] at h, fun _ _ _ _ _ _ _ _ h => by simp [Yt] at h, fun _ _ _ _ _ _ _ _ _ h => by simp [loopS] at h⟩
  | succ f ih =>
    obtain ⟨ih1, ih2, ih3⟩ := ih
    refine ⟨fun i dep es k j es' hi h => ?_, fun lev i dep es k j es' hi h => ?_, fun lev left i dep es k j es' hi h => ?_⟩
    · simp only [Wf] at h
      split at h
      · rename_i h0
        have h1 := hm.t hi h0
        split at h
        · split at h
          · split at h
            · rename_i k0 j0 e0 heq
              have := ih1 _ _ _ _ _ _ h1 heq
              cases h; omega
            · cases h
            · cases h
          · cases h
        · cases h
      · split at h
        · rename_i h0
          have h1 := hm.t hi h0
          split at h
          · split at h
            · split at h
              · rename_i k0 j0 e0 heq
                have h2 := ih2 _ _ _ _ _ _ _ h1 heq
                split at h
                · rename_i h3
                  have := hm.t h2.2 h3
                  cases h; omega
                · cases h
              · cases h
              · cases h
            · cases h
          · cases h
        · split at h
          · rename_i h0
            have := hm.n hi h0
            cases h; omega
          · split at h
            · rename_i h0
              have := hm.k hi h0 (by decide)
              cases h; omega
            · cases h
    · simp only [Yt] at h
      split at h
      · exact ih1 _ _ _ _ _ _ hi h
      · split at h
        · rename_i k0 j0 e0 heq
          have h2 := ih2 _ _ _ _ _ _ _ hi heq
          have h3 := ih3 _ _ _ _ _ _ _ _ h2.2 h
          omega
        · cases h
        · cases h
    · simp only [loopS] at h
      split at h
      · rename_i h0
        have h1 := hm.k hi h0.1 (by decide)
        split at h
        · rename_i k0 j0 e0 heq
          have h2 := ih2 _ _ _ _ _ _ _ h1 heq
          have h3 := ih3 _ _ _ _ _ _ _ _ h2.2 h
          omega
        · cases h
        · cases h
      · cases h; omega
theorem expr_fuel {l : List Tok} (hm : Ye l) : ∀ f : Nat,
    (∀ i dep es, i < l.length → (l.length - i) * 12 + 1 ≤ f → Wf l f i dep es ≠ .oof) ∧
    (∀ lev i dep es, i < l.length → (l.length - i) * 12 + 12 - lev ≤ f → lev ≤ 9 → Yt l f lev i dep es ≠ .oof) ∧
    (∀ lev left i dep es, i < l.length → (l.length - i) * 12 + 12 - lev ≤ f → lev ≤ 8 → loopS l f lev left i dep es ≠ .oof) := by
  intro f
  induction f with
  | zero => exact ⟨fun i _ _ hi h => by omega, fun lev i _ _ hi h h9 => by omega, fun lev _ i _ _ hi h h9 => by omega⟩
  | succ f ih =>
    obtain ⟨ih1, ih2, ih3⟩ := ih
    refine ⟨fun i dep es hi hf h => ?_, fun lev i dep es hi hf h9 h => ?_, fun lev left i dep es hi hf h8 h => ?_⟩
    · simp only [Wf] at h
      split at h
      · rename_i h0
        have h1 := hm.t hi h0
        have hn := ih1 (i + 1) (dep + 1) es h1 (by omega)
        repeat' split at h
        all_goals first | (cases h; done) | (rename_i heq; exact hn heq)
      · split at h
        · rename_i h0
          have h1 := hm.t hi h0
          have hn := ih2 1 (i + 1) (dep + 1) es h1 (by omega) (by omega)
          repeat' split at h
          all_goals first | (cases h; done) | (rename_i heq; exact hn heq)
        · repeat' split at h
          all_goals cases h
    · simp only [Yt] at h
      split at h
      · exact ih1 _ _ _ hi (by omega) h
      · rename_i h8
        have hn := ih2 (lev + 1) i dep es hi (by omega) (by omega)
        split at h
        · rename_i k0 j0 e0 heq
          have h2 := (expr_adv hm f).2.1 _ _ _ _ _ _ _ hi heq
          exact ih3 _ _ _ _ _ h2.2 (by omega) (by omega) h
        · cases h
        · rename_i heq
          exact hn heq
    · simp only [loopS] at h
      split at h
      · rename_i h0
        have h1 := hm.k hi h0.1 (by decide)
        have hn := ih2 (lev + 1) (i + 1) dep es h1 (by omega) (by omega)
        split at h
        · rename_i k0 j0 e0 heq
          have h2 := (expr_adv hm f).2.1 _ _ _ _ _ _ _ h1 heq
          exact ih3 _ _ _ _ _ h2.2 (by omega) h8 h
        · cases h
        · rename_i heq
          exact hn heq
      · cases h
end Run
end Go.Abs
namespace Go.Abs
namespace Run
theorem line_adv {l : List Tok} (hm : Ye l) {f lev i dep : Nat} {es : List Ex} {k j : Nat} {es' : List Ex} (hi : i < l.length) (h : Yt l f lev i dep es = .ok (k, j, es')) : i < j ∧ j < l.length := (expr_adv hm f).2.1 _ _ _ _ _ _ _ hi h
def KF (l : List Tok) : Nat := 12 * l.length + 20
theorem line_fuel {l : List Tok} (hm : Ye l) {f lev i dep : Nat} {es : List Ex} (hi : i < l.length) (hf : KF l ≤ f) (h9 : lev ≤ 9) : Yt l f lev i dep es ≠ .oof := (expr_fuel hm f).2.1 _ _ _ _ hi (by unfold KF at hf; omega) h9
theorem bracket_adv {l : List Tok} (hm : Ye l) {f i dep : Nat} {es : List Ex} {k j : Nat} {es' : List Ex} (hi : i < l.length) (h : Xs l f i dep es = .ok (k, j, es')) : i < j ∧ j < l.length := by
  unfold Xs at h
  have := @line_adv l hm
  have := @Ye.t l hm
  grind
theorem bracket_fuel {l : List Tok} (hm : Ye l) {f i dep : Nat} {es : List Ex} (hi : i < l.length) (hf : KF l ≤ f) : Xs l f i dep es ≠ .oof := by
  unfold Xs
  have := @line_fuel l hm
  have := @line_adv l hm
  have := @Ye.t l hm
  grind
theorem array_adv {l : List Tok} (hm : Ye l) {f i dep : Nat} {t : Ty} {es : List Ex} {ts : List Ty} {k j : Nat} {es' : List Ex} {ts' : List Ty} (hi : i < l.length) (h : arrayS l f t i dep es ts = .ok (k, j, es', ts')) : i ≤ j ∧ j < l.length := by
  unfold arrayS at h
  have := @bracket_adv l hm
  grind
theorem array_fuel {l : List Tok} (hm : Ye l) {f i dep : Nat} {t : Ty} {es : List Ex} {ts : List Ty} (hi : i < l.length) (hf : KF l ≤ f) : arrayS l f t i dep es ts ≠ .oof := by
  unfold arrayS
  have := @bracket_fuel l hm
  grind
theorem args_adv {l : List Tok} (hm : Ye l) {f : Nat} : ∀ {g : Nat} {xs : List Nat} {i dep : Nat} {es : List Ex} {ys : List Nat} {j : Nat} {es' : List Ex}, i < l.length → argsS l f g xs i dep es = .ok (ys, j, es') → i < j ∧ j < l.length := by
  intro g
  induction g with
  | zero => intro xs i dep es ys j es' hi h; simp [argsS] at h
  | succ g ih =>
    intro xs i dep es ys j es' hi h
    unfold argsS at h
    have := @line_adv l hm
    have := @Ye.t l hm
    grind
theorem args_fuel {l : List Tok} (hm : Ye l) {f : Nat} (hf : KF l ≤ f) : ∀ {g : Nat} {xs : List Nat} {i dep : Nat} {es : List Ex}, i < l.length → l.length < g + i → argsS l f g xs i dep es ≠ .oof := by
  intro g
  induction g with
  | zero => intro xs i dep es hi hg; omega
  | succ g ih =>
    intro xs i dep es hi hg
    unfold argsS
    have := @line_adv l hm
    have := @line_fuel l hm
    have := @Ye.t l hm
    grind
theorem ref_adv {l : List Tok} (hm : Ye l) {f i dep : Nat} {es : List Ex} {t : Ty} {j : Nat} {es' : List Ex} (hi : i < l.length) (h : refS l f i dep es = .ok (t, j, es')) : i < j ∧ j < l.length := by
  unfold refS at h
  have := @line_adv l hm
  have := @args_adv l hm
  have := @Ye.t l hm
  have := @Ye.n l hm
  grind
theorem ref_fuel {l : List Tok} (hm : Ye l) {f i dep : Nat} {es : List Ex} (hi : i < l.length) (hf : KF l ≤ f) : refS l f i dep es ≠ .oof := by
  unfold refS
  have := @line_adv l hm
  have := @line_fuel l hm
  have := @args_fuel l hm f hf
  have := @Ye.t l hm
  have := @Ye.n l hm
  have : l.length < f := by unfold KF at hf; omega
  grind
theorem kind_adv {l : List Tok} (hm : Ye l) : ∀ {f : Nat},
    (∀ {i dep : Nat} {es : List Ex} {ts : List Ty} {k j : Nat} {es' : List Ex} {ts' : List Ty}, i < l.length → Y8 l f i dep es ts = .ok (k, j, es', ts') → i < j ∧ j < l.length) ∧
    (∀ {i dep : Nat} {es : List Ex} {ts : List Ty} {k j : Nat} {es' : List Ex} {ts' : List Ty}, i < l.length → YM l f i dep es ts = .ok (k, j, es', ts') → i < j ∧ j < l.length) ∧
    (∀ {x : Nat} {cs : List Ca} {i dep : Nat} {es : List Ex} {ts : List Ty} {k j : Nat} {es' : List Ex} {ts' : List Ty}, i < l.length → casesS l f x cs i dep es ts = .ok (k, j, es', ts') → i < j ∧ j < l.length) := by
  have m1 := @Ye.t l hm
  have m2 := @Ye.n l hm
  have m3 := @Ye.k l hm
  have e1 := @line_adv l hm
  have e2 := @bracket_adv l hm
  have e3 := @array_adv l hm
  have e4 := @ref_adv l hm
  have e5 : ∀ {i : Nat}, i < l.length → isK (Zp l i) → i + 1 < l.length := fun hi h => by rcases h with h | h; exact m2 hi h; exact m3 hi h.1 (by decide)
  intro f
  induction f with
  | zero => exact ⟨fun _ h => by simp [Y8] at h, fun _ h => by simp [YM] at h, fun _ h => by simp [casesS] at h⟩
  | succ f ih =>
    obtain ⟨ih1, ih2, ih3⟩ := ih
    refine ⟨fun {i dep es ts k j es' ts'} hi h => ?_, fun {i dep es ts k j es' ts'} hi h => ?_, fun {x cs i dep es ts k j es' ts'} hi h => ?_⟩
    · unfold Y8 inS at h
      grind
    · unfold YM at h
      grind
    · unfold casesS inS at h
      grind
theorem kind_fuel {l : List Tok} (hm : Ye l) : ∀ {f : Nat},
    (∀ {i dep : Nat} {es : List Ex} {ts : List Ty}, i < l.length → KF l + 2 * (l.length - i) ≤ f → Y8 l f i dep es ts ≠ .oof) ∧
    (∀ {i dep : Nat} {es : List Ex} {ts : List Ty}, i < l.length → KF l + 2 * (l.length - i) + 1 ≤ f → YM l f i dep es ts ≠ .oof) ∧
    (∀ {x : Nat} {cs : List Ca} {i dep : Nat} {es : List Ex} {ts : List Ty}, i < l.length → KF l + 2 * (l.length - i) + 1 ≤ f → casesS l f x cs i dep es ts ≠ .oof) := by
  have m1 := @Ye.t l hm
  have m2 := @Ye.n l hm
  have m3 := @Ye.k l hm
  have e1 := @line_adv l hm
  have e2 := @bracket_adv l hm
  have e3 := @array_adv l hm
  have e4 := @ref_adv l hm
  have f1 := @line_fuel l hm
  have f2 := @bracket_fuel l hm
  have f3 := @array_fuel l hm
  have f4 := @ref_fuel l hm
  have e5 : ∀ {i : Nat}, i < l.length → isK (Zp l i) → i + 1 < l.length := fun hi h => by rcases h with h | h; exact m2 hi h; exact m3 hi h.1 (by decide)
  intro f
  induction f with
  | zero => exact ⟨fun hi h => by unfold KF at h; omega, fun hi h => by omega, fun hi h => by omega⟩
  | succ f ih =>
    obtain ⟨ih1, ih2, ih3⟩ := ih
    have ea := @kind_adv l hm f
    obtain ⟨ea1, ea2, ea3⟩ := ea
    refine ⟨fun {i dep es ts} hi hf => ?_, fun {i dep es ts} hi hf => ?_, fun {x cs i dep es ts} hi hf => ?_⟩
    · unfold Y8 inS
      grind
    · unfold YM
      grind
    · unfold casesS inS
      grind
theorem derTail_adv {l : List Tok} (hm : Ye l) {d i : Nat} {d' : Nat} {a b : List Nat} {j : Nat} (hi : i < l.length) (h : derTail l d i = .ok (d', a, b, j)) : i < j ∧ j < l.length := by
  unfold derTail at h
  have m1 := @Ye.t l hm
  have m2 := @Ye.n l hm
  grind
theorem derived_adv {l : List Tok} (hm : Ye l) {i : Nat} {d' : Nat} {a b : List Nat} {j : Nat} (hi : i < l.length) (h : derivedS l i = .ok (d', a, b, j)) : i < j ∧ j < l.length := by
  unfold derivedS at h
  have m1 := @Ye.t l hm
  have e1 := @derTail_adv l hm
  grind
theorem derived_fuel {l : List Tok} {i : Nat} : derivedS l i ≠ .oof := by
  unfold derivedS derTail
  grind
theorem where_adv {l : List Tok} (hm : Ye l) {f : Nat} {nm : List Nat} {k der : Nat} {a b : List Nat} {i dep : Nat} {es : List Ex} {ts : List Ty} {x : It} {j : Nat} {es' : List Ex} {ts' : List Ty} (hi : i < l.length) (h : whereS l f nm k der a b i dep es ts = .ok (x, j, es', ts')) : i < j ∧ j < l.length := by
  unfold whereS at h
  have m1 := @Ye.t l hm
  have e1 := @line_adv l hm
  grind
theorem where_fuel {l : List Tok} (hm : Ye l) {f : Nat} {nm : List Nat} {k der : Nat} {a b : List Nat} {i dep : Nat} {es : List Ex} {ts : List Ty} (hi : i < l.length) (hf : KF l ≤ f) : whereS l f nm k der a b i dep es ts ≠ .oof := by
  unfold whereS
  have m1 := @Ye.t l hm
  have e1 := @line_fuel l hm
  grind
theorem field_adv {l : List Tok} (hm : Ye l) {f i dep : Nat} {es : List Ex} {ts : List Ty} {x : It} {j : Nat} {es' : List Ex} {ts' : List Ty} (hi : i < l.length) (h : fieldS l f i dep es ts = .ok (x, j, es', ts')) : i < j ∧ j < l.length := by
  unfold fieldS at h
  have m1 := @Ye.t l hm
  have m2 := @Ye.n l hm
  have e1 := @where_adv l hm
  have e2 := @derived_adv l hm
  obtain ⟨e3, _, _⟩ := @kind_adv l hm f
  grind
def KK (l : List Tok) : Nat := KF l + 2 * l.length + 2
theorem field_fuel {l : List Tok} (hm : Ye l) {f i dep : Nat} {es : List Ex} {ts : List Ty} (hi : i < l.length) (hf : KK l ≤ f) : fieldS l f i dep es ts ≠ .oof := by
  unfold fieldS
  have m1 := @Ye.t l hm
  have m2 := @Ye.n l hm
  have e1 := @where_fuel l hm
  have e2 := @derived_adv l hm
  obtain ⟨e3, _, _⟩ := @kind_adv l hm f
  have e4 := @derived_fuel l
  obtain ⟨e5, _, _⟩ := @kind_fuel l hm f
  unfold KK at hf
  grind
theorem subs_adv {l : List Tok} (hm : Ye l) : ∀ {g : Nat} {xs : List Sb} {i : Nat} {ys : List Sb} {j : Nat}, i < l.length → subsS l g xs i = .ok (ys, j) → i < j ∧ j < l.length := by
  have m1 := @Ye.t l hm
  have m2 := @Ye.n l hm
  have m3 := @Ye.k l hm
  intro g
  induction g with
  | zero => intro xs i ys j hi h; simp [subsS] at h
  | succ g ih =>
    intro xs i ys j hi h
    unfold subsS at h
    grind
theorem subs_fuel {l : List Tok} (hm : Ye l) : ∀ {g : Nat} {xs : List Sb} {i : Nat}, i < l.length → l.length < g + i → subsS l g xs i ≠ .oof := by
  have m1 := @Ye.t l hm
  have m2 := @Ye.n l hm
  have m3 := @Ye.k l hm
  intro g
  induction g with
  | zero => intro xs i hi h; omega
  | succ g ih =>
    intro xs i hi h
    unfold subsS
    grind
theorem pack_adv {l : List Tok} (hm : Ye l) {g i : Nat} {x : It} {j : Nat} (hi : i < l.length) (h : packS l g i = .ok (x, j)) : i < j ∧ j < l.length := by
  unfold packS at h
  have m1 := @Ye.t l hm
  have m3 := @Ye.k l hm
  have e1 := @subs_adv l hm
  grind
theorem pack_fuel {l : List Tok} (hm : Ye l) {g i : Nat} (hi : i < l.length) (hg : l.length ≤ g) : packS l g i ≠ .oof := by
  unfold packS
  have m1 := @Ye.t l hm
  have m3 := @Ye.k l hm
  have e1 := @subs_fuel l hm
  grind
theorem params_adv {l : List Tok} (hm : Ye l) : ∀ {g : Nat} {xs : List (List Nat)} {i : Nat} {ys : List (List Nat)} {j : Nat}, i < l.length → Xw l g xs i = .ok (ys, j) → i < j ∧ j < l.length := by
  have m1 := @Ye.t l hm
  have m2 := @Ye.n l hm
  intro g
  induction g with
  | zero => intro xs i ys j hi h; simp [Xw] at h
  | succ g ih =>
    intro xs i ys j hi h
    unfold Xw at h
    grind
theorem params_fuel {l : List Tok} (hm : Ye l) : ∀ {g : Nat} {xs : List (List Nat)} {i : Nat}, i < l.length → l.length < g + i → Xw l g xs i ≠ .oof := by
  have m1 := @Ye.t l hm
  have m2 := @Ye.n l hm
  intro g
  induction g with
  | zero => intro xs i hi h; omega
  | succ g ih =>
    intro xs i hi h
    unfold Xw
    grind
theorem items_adv {l : List Tok} (hm : Ye l) {f : Nat} : ∀ {g : Nat} {xs : List It} {i dep : Nat} {es : List Ex} {ts : List Ty} {ys : List It} {j : Nat} {es' : List Ex} {ts' : List Ty}, i < l.length → itemsS l f g xs i dep es ts = .ok (ys, j, es', ts') → i < j ∧ j < l.length := by
  have m1 := @Ye.t l hm
  have e1 := @pack_adv l hm
  have e2 := @field_adv l hm
  intro g
  induction g with
  | zero => intro xs i dep es ts ys j es' ts' hi h; simp [itemsS] at h
  | succ g ih =>
    intro xs i dep es ts ys j es' ts' hi h
    unfold itemsS at h
    grind
theorem items_fuel {l : List Tok} (hm : Ye l) {f : Nat} (hf : KK l ≤ f) : ∀ {g : Nat} {xs : List It} {i dep : Nat} {es : List Ex} {ts : List Ty}, i < l.length → l.length < g + i → itemsS l f g xs i dep es ts ≠ .oof := by
  have m1 := @Ye.t l hm
  have e1 := @pack_adv l hm
  have e2 := @field_adv l hm
  have f1 := @pack_fuel l hm
  have f2 := @field_fuel l hm
  have : l.length ≤ f := by unfold KK KF at hf; omega
  intro g
  induction g with
  | zero => intro xs i dep es ts hi h; omega
  | succ g ih =>
    intro xs i dep es ts hi h
    unfold itemsS
    grind
theorem body_adv {l : List Tok} (hm : Ye l) {f : Nat} {nm : List Nat} {ps : List (List Nat)} {i dep : Nat} {es : List Ex} {ts : List Ty} {x : Sc} {j : Nat} {es' : List Ex} {ts' : List Ty} (hi : i < l.length) (h : bodyS l f nm ps i dep es ts = .ok (x, j, es', ts')) : i < j ∧ j < l.length := by
  unfold bodyS at h
  have m1 := @Ye.t l hm
  have e1 := @items_adv l hm
  grind
theorem body_fuel {l : List Tok} (hm : Ye l) {f : Nat} (hf : KK l ≤ f) {nm : List Nat} {ps : List (List Nat)} {i dep : Nat} {es : List Ex} {ts : List Ty} (hi : i < l.length) : bodyS l f nm ps i dep es ts ≠ .oof := by
  unfold bodyS
  have m1 := @Ye.t l hm
  have e1 := @items_fuel l hm f hf
  have : l.length ≤ f := by unfold KK KF at hf; omega
  grind
theorem record_adv {l : List Tok} (hm : Ye l) {f i dep : Nat} {es : List Ex} {ts : List Ty} {x : Sc} {j : Nat} {es' : List Ex} {ts' : List Ty} (hi : i < l.length) (h : XV l f i dep es ts = .ok (x, j, es', ts')) : i < j ∧ j < l.length := by
  unfold XV at h
  have m1 := @Ye.t l hm
  have m2 := @Ye.n l hm
  have e1 := @params_adv l hm
  have e2 := @body_adv l hm
  grind
theorem record_fuel {l : List Tok} (hm : Ye l) {f : Nat} (hf : KK l ≤ f) {i dep : Nat} {es : List Ex} {ts : List Ty} (hi : i < l.length) : XV l f i dep es ts ≠ .oof := by
  unfold XV
  have m1 := @Ye.t l hm
  have m2 := @Ye.n l hm
  have e1 := @params_adv l hm
  have e2 := @params_fuel l hm
  have e3 := @body_fuel l hm f hf
  have : l.length < f := by unfold KK KF at hf; omega
  grind
theorem const_adv {l : List Tok} (hm : Ye l) {i : Nat} {nm : List Nat} {n j : Nat} (hi : i < l.length) (h : constS l i = .ok (nm, n, j)) : i < j ∧ j < l.length := by
  unfold constS at h
  have m1 := @Ye.t l hm
  have m2 := @Ye.n l hm
  have m3 := @Ye.k l hm
  grind
theorem const_fuel {l : List Tok} {i : Nat} : constS l i ≠ .oof := by
  unfold constS
  grind
end Run
end Go.Abs
namespace Go.Abs
namespace Run
theorem whole_fuel {l : List Tok} (hm : Ye l) {f : Nat} (hf : KK l ≤ f) : ∀ {g : Nat} {cs : List Co} {ss : List Sc} {i dep : Nat} {es : List Ex} {ts : List Ty}, i < l.length → l.length < g + i → wholeS l f g cs ss i dep es ts ≠ .oof := by
  have e1 := @const_adv l hm
  have e2 := @const_fuel l
  have e3 := @record_adv l hm
  have e4 := @record_fuel l hm f hf
  intro g
  induction g with
  | zero => intro cs ss i dep es ts hi h; omega
  | succ g ih =>
    intro cs ss i dep es ts hi h
    unfold wholeS
    grind
theorem lex_end : ∀ {g : Nat} {s : List Nat} {a b : Nat} {ts l : List Tok} {x y : Nat}, lexS g s a b ts = some (l, x, y, 0) → x = 0 ∧ y = 0 ∧ l.length ≤ ts.length + s.length + 1 ∧ ∃ pre u v, l = pre ++ [⟨3, [], 0, u, v⟩] := by
  intro g
  induction g with
  | zero => intro s a b ts l x y h; simp [lexS] at h
  | succ g ih =>
    intro s a b ts l x y h
    unfold lexS at h
    have hpl := pass_len false s a b
    split at h
    · cases h
      exact ⟨rfl, rfl, by simp, _, _, _, rfl⟩
    · split at h
      · rename_i h1 h2
        have h3 := ih h
        have h4 := tokS_pre h2
        have h5 := isP_len h4.1
        simp only [List.length_append, List.length_cons, List.length_nil, List.length_drop] at h3
        exact ⟨h3.1, h3.2.1, by omega, h3.2.2.2⟩
      · split at h
        · cases h
        · rename_i h1 h2 h3
          simp only [Option.some.injEq, Prod.mk.injEq] at h
          exact absurd h.2.2.2 h2
theorem more_end {pre : List Tok} {u v : Nat} : Ye (pre ++ [⟨3, [], 0, u, v⟩]) := by
  intro i hi hk
  simp only [List.length_append, List.length_cons, List.length_nil] at hi ⊢
  by_cases he : i = pre.length
  · subst he
    simp [Zp] at hk
  · omega
theorem rows_tok : ∀ {l : List Tok} {cs : List (List D)}, Rows TokR l cs → cs = l.map tokC
  | [], cs, h => by
    have := h.1
    simp at this
    simpa using this
  | x :: l, [], h => by have := h.1; simp at this
  | x :: l, c :: cs, h => by
    have h1 : c = tokC x := h.2 0 x c rfl rfl
    have h2 : Rows TokR l cs := ⟨by have := h.1; simpa using this, fun i y d e1 e2 => h.2 (i + 1) y d (by simpa using e1) (by simpa using e2)⟩
    rw [h1, rows_tok h2, List.map_cons]
theorem toks_of {d : D} {l : List Tok} (hd : SlR TokR 5 d l) (hs : l.length ≤ 1000000) (hm : Ye l) : Toks d l where
  arr := by
    obtain ⟨cs, hr, hl, hc⟩ := hd
    have e := rows_tok hr
    subst e
    refine ⟨hl, ?_⟩
    rcases hc with ⟨rfl, rfl⟩ | ⟨id, rfl, _⟩
    · exact .inl ⟨rfl, rfl⟩
    · exact .inr ⟨id, rfl⟩
  small := hs
  more := hm
end Run
end Go.Abs
