/- The reckoner's code made quick: regions, code, calls. -/
import Derived.Test.YtmaphdhdfbgflaaGreatDoorAbsFast2
set_option linter.unusedVariables false
namespace Go.Abs

inductive XT where
  | out (e : AExit) (t : Tr D) (h : H)
  | panic (d : D) (h : H)
  | fail (why : String)
def Ok (x : XT) (y : X) : Prop :=
  match x with
  | .out e t h => y = .out e (act t) h
  | .panic d h => ∃ a : AAct, y = .panic d a h ∧ a.defers = []
  | .fail _ => True
abbrev FR := Env → Call → Tr D → H → XT
abbrev FD := Env → Call → List Rec → Tr D → H → XT
abbrev FC := Env → Call → Nat → Tr D → H → XT

def fend : FR := fun E call t h => .out .normal t h
def fo (f : FOp) (p : D → Tr D → Tr D) (k : FR) : FR := fun E call t h => O.casesOn (motive := fun _ => XT) (f E call t h) (fun d h' => k E call (p d t) h') (fun d h' => .panic d h') (fun w => .fail w)
def wanted (d : D) (want : Bool) : Bool :=
  match d with
  | .v (.bool b) => bif b then want else !want
  | _ => false
def fog (g : Tr D → D) (want : Bool) (f : FOp) (p : D → Tr D → Tr D) (k : FR) : FR := fun E call t h =>
  bif wanted (g t) want then fo f p k E call t h else k E call (p undefD t) h
def fops : List CO → FR
  | [] => fend
  | o :: r => match o.guard with
    | none => fo (fop o.op) (fput o.dst) (fops r)
    | some (t, w) => fog (gF (t + 1) t) w (fop o.op) (fput o.dst) (fops r)
theorem wanted_none {o : CO} {t : Tr D} (hg : o.guard = none) : awanted (act t) o = true := by simp [awanted, hg]
theorem wanted_some {o : CO} {t : Tr D} {n : Nat} {w : Bool} (hg : o.guard = some (n, w)) : awanted (act t) o = wanted (gF (n + 1) n t) w := by
  simp only [awanted, hg, gF_eq _ _ t (Nat.lt_succ_self n)]
  show (match t.get n with
    | some (.v (.bool b)) => bif b then w else !w
    | _ => false) = _
  cases t.get n with
  | none => rfl
  | some d =>
    cases d <;> try rfl
    rename_i x; cases x <;> rfl
theorem fops_ok (E : Env) (call : Call) : ∀ (l : List CO) (t : Tr D) (h : H), Ok (fops l E call t h) (crunOps E call l (act t) h)
  | [], t, h => rfl
  | o :: r, t, h => by
    have key : awanted (act t) o = true → Ok (fo (fop o.op) (fput o.dst) (fops r) E call t h) (crunOps E call (o :: r) (act t) h) := by
      intro hw
      simp only [fo, fop_eq, crunOps, hw, cond_true]
      split
      · rename_i f he
        simp only [he, den, r_dfr, Ok]
      · show Ok (O.casesOn (motive := fun _ => XT) (den o.op E call (act t) h) (fun d h' => fops r E call (fput o.dst d t) h') (fun d h' => .panic d h') (fun w => .fail w)) (match crun E call (act t) o.op h with
          | .ok d h => crunOps E call r ((act t).put o.dst d) h
          | .panic d h => .panic d (act t) h
          | .fail w => .fail w)
        rw [crun]
        cases den o.op E call (act t) h with
        | ok d h' =>
          show Ok (fops r E call (fput o.dst d t) h') (crunOps E call r ((act t).put o.dst d) h')
          rw [← fput_eq]; exact fops_ok E call r _ _
        | panic d h' => exact ⟨act t, rfl, rfl⟩
        | fail w => exact trivial
    cases hg : o.guard with
    | none => simp only [fops, hg]; exact key (wanted_none hg)
    | some q =>
      obtain ⟨n, w⟩ := q
      simp only [fops, hg, fog]
      cases hw : wanted (gF (n + 1) n t) w with
      | true => simp only [cond_true]; exact key ((wanted_some hg).trans hw)
      | false =>
        have : awanted (act t) o = false := (wanted_some hg).trans hw
        simp only [cond_false, crunOps, this]
        rw [← fput_eq]; exact fops_ok E call r _ _

def fdend : FD := fun E call recs t h => .out .normal t h
def fdbad : FD := fun E call recs t h => .fail "draw"
def fdo (f : FOp) (p : D → Tr D → Tr D) (k : FD) : FD := fun E call recs t h => O.casesOn (motive := fun _ => XT) (f E call t h) (fun d h' => k E call recs (p d t) h') (fun _ _ => .fail "draw: panic") (fun w => .fail w)
def fdr (i : Nat) (inc : List Nat) (n : Nat) (g : Tr D → D) (f : FOp) (p : D → Tr D → Tr D) (k : FD) : FD := fun E call recs t h => O.casesOn (motive := fun _ => XT) (f E call t h)
  (fun d h' => match readCells h (g t) n with
    | some cs => bif readOk inc (g t) cs recs then k E call (.rd i (g t) cs :: recs) (p d t) h' else .fail "draw: read"
    | none => .fail "draw: cells") (fun _ _ => .fail "draw: panic") (fun w => .fail w)
def fdl (i : Nat) (inc : List Nat) (f : FOp) (p : D → Tr D → Tr D) (k : FD) : FD := fun E call recs t h => O.casesOn (motive := fun _ => XT) (f E call t h)
  (fun d h' => bif loudOk inc h' recs then k E call (.loud i h :: recs) (p d t) h' else .fail "draw: loud") (fun _ _ => .fail "draw: panic") (fun w => .fail w)
def fdg (g : Tr D → D) (want : Bool) (y : FD → FD) (p : D → Tr D → Tr D) (k : FD) : FD := fun E call recs t h =>
  bif wanted (g t) want then y k E call recs t h else k E call recs (p undefD t) h
def fdop (i : Nat) (inc : List Nat) (o : CO) : FD → FD :=
  match o.op with
  | .ld1 x => fdr i inc 1 (fe x) (fop o.op) (fput o.dst)
  | .ldN n x => fdr i inc n (fe x) (fop o.op) (fput o.dst)
  | _ => bif isLoud o.op then fdl i inc (fop o.op) (fput o.dst) else fdo (fop o.op) (fput o.dst)
def fdops : Nat → List (List Nat) → List CO → FD
  | _, _, [] => fdend
  | _, [], _ :: _ => fdbad
  | i, inc :: incs, o :: r => match o.guard with
    | none => fdop i inc o (fdops (i + 1) incs r)
    | some (t, w) => fdg (gF (t + 1) t) w (fdop i inc o) (fput o.dst) (fdops (i + 1) incs r)
theorem fdops_ok (E : Env) (call : Call) : ∀ (l : List CO) (i : Nat) (recs : List Rec) (incs : List (List Nat)) (t : Tr D) (h : H), Ok (fdops i incs l E call recs t h) (cdraw E call i recs incs l (act t) h)
  | [], i, recs, incs, t, h => by cases incs <;> rfl
  | o :: r, i, recs, [], t, h => trivial
  | o :: r, i, recs, inc :: incs, t, h => by
    have ih := fun recs t h => fdops_ok E call r (i + 1) recs incs t h
    have key : awanted (act t) o = true → Ok (fdop i inc o (fdops (i + 1) incs r) E call recs t h) (cdraw E call i recs (inc :: incs) (o :: r) (act t) h) := by
      intro hw
      have rd : ∀ n x, readsOf (act t) o.op = some ((act t).eval x, n) → Ok (fdr i inc n (fe x) (fop o.op) (fput o.dst) (fdops (i + 1) incs r) E call recs t h) (cdraw E call i recs (inc :: incs) (o :: r) (act t) h) := by
        intro n x hr
        simp only [fdr, fop_eq, cdraw, hw, cond_true, crun]
        cases den o.op E call (act t) h with
        | ok d h' =>
          simp only [hr, fe_eq]
          cases readCells h ((act t).eval x) n with
          | none => exact trivial
          | some cs =>
            simp only []
            cases readOk inc ((act t).eval x) cs recs with
            | false => exact trivial
            | true => simp only [cond_true]; rw [← fput_eq]; exact ih _ _ _
        | panic d h' => exact trivial
        | fail w => exact trivial
      have oth : readsOf (act t) o.op = none → Ok ((bif isLoud o.op then fdl i inc (fop o.op) (fput o.dst) else fdo (fop o.op) (fput o.dst)) (fdops (i + 1) incs r) E call recs t h) (cdraw E call i recs (inc :: incs) (o :: r) (act t) h) := by
        intro hr
        cases hl : isLoud o.op with
        | true =>
          simp only [cond_true, fdl, fop_eq, cdraw, hw, crun]
          cases den o.op E call (act t) h with
          | ok d h' =>
            simp only [hr, hl, cond_true]
            cases loudOk inc h' recs with
            | false => exact trivial
            | true => simp only [cond_true]; rw [← fput_eq]; exact ih _ _ _
          | panic d h' => exact trivial
          | fail w => exact trivial
        | false =>
          simp only [cond_true, cond_false, fdo, fop_eq, cdraw, hw, crun]
          cases den o.op E call (act t) h with
          | ok d h' => simp only [hr, hl, cond_false]; rw [← fput_eq]; exact ih _ _ _
          | panic d h' => exact trivial
          | fail w => exact trivial
      obtain ⟨od, og, oo⟩ := o
      cases oo with
      | ld1 x => exact rd 1 x rfl
      | ldN n x => exact rd n x rfl
      | _ => exact oth rfl
    cases hg : o.guard with
    | none => simp only [fdops, hg]; exact key (wanted_none hg)
    | some q =>
      obtain ⟨n, w⟩ := q
      simp only [fdops, hg, fdg]
      cases hw : wanted (gF (n + 1) n t) w with
      | true => simp only [cond_true]; exact key ((wanted_some hg).trans hw)
      | false =>
        have : awanted (act t) o = false := (wanted_some hg).trans hw
        simp only [cond_false, cdraw, this]
        rw [← fput_eq]; exact ih _ _ _

/-! Code. -/
def fskip : FC := fun E call n t h => Nat.casesOn (motive := fun _ => XT) n (.fail "fuel") (fun _ => .out .normal t h)
def fexit (id : Nat) : FC := fun E call n t h => Nat.casesOn (motive := fun _ => XT) n (.fail "fuel") (fun _ => .out (.exit id) t h)
def fret : FC := fun E call n t h => Nat.casesOn (motive := fun _ => XT) n (.fail "fuel") (fun _ => .out .ret t h)
def fbad : FC := fun E call n t h => .fail "bad"
def freg (r : FR) : FC := fun E call n t h => Nat.casesOn (motive := fun _ => XT) n (.fail "fuel") (fun _ => r E call t h)
def fdreg (r : FD) : FC := fun E call n t h => Nat.casesOn (motive := fun _ => XT) n (.fail "fuel") (fun _ => r E call [] t h)
def fseq (x y : FC) : FC := fun E call n t h => Nat.casesOn (motive := fun _ => XT) n (.fail "fuel") (fun n => XT.casesOn (motive := fun _ => XT) (x E call n t h)
  (fun e t h => AExit.casesOn (motive := fun _ => XT) e (y E call n t h) (fun id => .out (.exit id) t h) (.out .ret t h)) (fun d h => .panic d h) (fun w => .fail w))
def fcond (g : Tr D → D) (x y : FC) : FC := fun E call n t h => Nat.casesOn (motive := fun _ => XT) n (.fail "fuel") (fun n => match g t with
  | .v (.bool b) => bif b then x E call n t h else y E call n t h
  | _ => .fail "cond")
def fblock (id : Nat) (x : FC) : FC := fun E call n t h => Nat.casesOn (motive := fun _ => XT) n (.fail "fuel") (fun n => XT.casesOn (motive := fun _ => XT) (x E call n t h)
  (fun e t h => AExit.casesOn (motive := fun _ => XT) e (.out .normal t h) (fun k => bif Nat.beq k id then .out .normal t h else .out (.exit k) t h) (.out .ret t h)) (fun d h => .panic d h) (fun w => .fail w))
def floop (x : FC) (E : Env) (call : Call) : Nat → Tr D → H → XT
  | 0, _, _ => .fail "fuel"
  | n + 1, t, h => XT.casesOn (motive := fun _ => XT) (x E call n t h)
      (fun e t h => AExit.casesOn (motive := fun _ => XT) e (floop x E call n t h) (fun k => .out (.exit k) t h) (.out .ret t h)) (fun d h => .panic d h) (fun w => .fail w)
def fcode : CC → FC
  | .skip => fskip
  | .ops l => freg (fops l)
  | .draw inc l => fdreg (fdops 0 inc l)
  | .seq a b => fseq (fcode a) (fcode b)
  | .cond c a b => fcond (fe c) (fcode a) (fcode b)
  | .block id c => fblock id (fcode c)
  | .loop c => floop (fcode c)
  | .exit id => fexit id
  | .ret => fret
  | .stop => fbad
  | .back .. => fbad
theorem fcode_ok (E : Env) (call : Call) : ∀ (c : CC) (n : Nat) (t : Tr D) (h : H), Ok (fcode c E call n t h) (ccode E call n c (act t) h) := by
  intro c
  induction c with
  | skip => intro n t h; cases n <;> first | trivial | rfl
  | ops l => intro n t h; cases n with
    | zero => trivial
    | succ n => exact fops_ok E call l t h
  | draw inc l => intro n t h; cases n with
    | zero => trivial
    | succ n => exact fdops_ok E call l 0 [] inc t h
  | seq a b iha ihb =>
    intro n t h
    cases n with
    | zero => trivial
    | succ n =>
      have h1 := iha n t h
      simp only [fcode, fseq, ccode]
      cases hx : fcode a E call n t h with
      | out e t' h' =>
        rw [hx] at h1
        have h1 : ccode E call n a (act t) h = .out e (act t') h' := h1
        rw [h1]
        cases e with
        | normal => exact ihb n t' h'
        | exit id => rfl
        | ret => rfl
      | panic d h' =>
        rw [hx] at h1
        obtain ⟨a', h2, h3⟩ := h1
        rw [h2]; exact ⟨a', rfl, h3⟩
      | fail w => trivial
  | cond c a b iha ihb =>
    intro n t h
    cases n with
    | zero => trivial
    | succ n =>
      simp only [fcode, fcond, ccode, fe_eq]
      split
      · rename_i b' he
        rw [he]
        cases b' with
        | true => exact iha n t h
        | false => exact ihb n t h
      · trivial
  | block id a iha =>
    intro n t h
    cases n with
    | zero => trivial
    | succ n =>
      have h1 := iha n t h
      simp only [fcode, fblock, ccode]
      cases hx : fcode a E call n t h with
      | out e t' h' =>
        rw [hx] at h1
        have h1 : ccode E call n a (act t) h = .out e (act t') h' := h1
        rw [h1]
        cases e with
        | normal => rfl
        | exit k => simp only []; cases Nat.beq k id <;> rfl
        | ret => rfl
      | panic d h' =>
        rw [hx] at h1
        obtain ⟨a', h2, h3⟩ := h1
        rw [h2]; exact ⟨a', rfl, h3⟩
      | fail w => trivial
  | loop a iha =>
    intro n
    induction n with
    | zero => intro t h; trivial
    | succ n ihn =>
      intro t h
      have h1 := iha n t h
      simp only [fcode, floop, ccode]
      cases hx : fcode a E call n t h with
      | out e t' h' =>
        rw [hx] at h1
        have h1 : ccode E call n a (act t) h = .out e (act t') h' := h1
        rw [h1]
        cases e with
        | normal => exact ihn t' h'
        | exit k => rfl
        | ret => rfl
      | panic d h' =>
        rw [hx] at h1
        obtain ⟨a', h2, h3⟩ := h1
        rw [h2]; exact ⟨a', rfl, h3⟩
      | fail w => trivial
  | exit id => intro n t h; cases n <;> first | trivial | rfl
  | ret => intro n t h; cases n <;> first | trivial | rfl
  | stop => intro n t h; trivial
  | back => intro n t h; trivial

/-! Calls. -/
abbrev FFn := Env → Nat → Call → List D → H → O D
def fres : List CRes → Tr D → H → O D
  | [] => fun t h => .ok (.tup []) h
  | [.t a] => fun t h => .ok (gF (a + 1) a t) h
  | [.t a, .t b] => fun t h => .ok (.tup [gF (a + 1) a t, gF (b + 1) b t]) h
  | [.t a, .t b, .t c] => fun t h => .ok (.tup [gF (a + 1) a t, gF (b + 1) b t, gF (c + 1) c t]) h
  | l => fun t h => cfin ⟨l, .skip⟩ (act t) h
theorem geq (a : Nat) (t : Tr D) : gF (a + 1) a t = (act t).eval (.t a) := fe_eq (.t a) t
theorem fres_eq (l : List CRes) (c : CC) (t : Tr D) (h : H) : fres l t h = cfin ⟨l, c⟩ (act t) h := by
  unfold fres
  split <;> simp only [cfin, cresults, oneOf, geq]
def fargs : Nat → List (D → Tr D → Tr D) → List D → Tr D → Tr D
  | _, _, [], t => t
  | i, [], x :: xs, t => Tr.ofListFrom i (x :: xs) t
  | i, s :: ss, x :: xs, t => fargs (i + 1) ss xs (s x t)
def sets : Nat → Nat → List (D → Tr D → Tr D)
  | 0, _ => []
  | k + 1, i => pF (i + 1) i :: sets k (i + 1)
theorem fargs_eq : ∀ (xs : List D) (k i : Nat) (t : Tr D), fargs i (sets k i) xs t = Tr.ofListFrom i xs t
  | [], k, i, t => by cases k <;> rfl
  | x :: xs, 0, i, t => rfl
  | x :: xs, k + 1, i, t => by
    simp only [sets, fargs, Tr.ofListFrom]
    rw [fargs_eq xs k (i + 1), pF_eq]; rfl
def ffn (ss : List (D → Tr D → Tr D)) (res : Tr D → H → O D) (body : FC) : FFn := fun E n call args h => XT.casesOn (motive := fun _ => O D) (body E call n (fargs 0 ss args .nil) h)
  (fun e t h => AExit.casesOn (motive := fun _ => O D) e (res t h) (fun _ => .fail "exit") (res t h)) (fun d h => .panic d h) (fun w => .fail w)
def fcfn (k : Nat) (c : CFn) : FFn := ffn (sets k 0) (fres c.results) (fcode c.body)
/-- The slow way, for a function that defers. -/
def fslow (c : CFn) : FFn := fun E n call args h => match ccode E call n c.body (start args none) h with
  | .out e a h => match e with
    | .exit _ => .fail "exit"
    | _ => cleave E call n c none a h
  | .panic d a h => cleave E call n c (some d) a h
  | .fail w => .fail w
def flib (g : List D → H → O D) : FFn := fun E n call args h => g args h
def fcall (E : Env) (T : Nat → FFn) : Nat → Call
  | 0 => fun f args h => .fail "fuel"
  | n + 1 => fun f args h => T f E n (fcall E T n) args h
def NoFail (o : O D) : Prop :=
  match o with
  | .fail _ => False
  | _ => True
/-- What a table of quick functions says. -/
def Table (E : Env) (T : Nat → FFn) : Prop := ∀ f n call args h, NoFail (T f E n call args h) → T f E n call args h = (match E.lib f with
    | some g => g args h
    | none => match E.fns f with
      | none => .fail ("no function " ++ toString f)
      | some fn =>
        match ccode E call n fn.body (start args none) h with
        | .out e a h => match e with
          | .exit _ => .fail "exit"
          | _ => cleave E call n fn none a h
        | .panic d a h => cleave E call n fn (some d) a h
        | .fail w => .fail w)
theorem fcfn_ok (E : Env) (k : Nat) (c : CFn) (n : Nat) (call : Call) (args : List D) (h : H) (hn : NoFail (fcfn k c E n call args h)) : fcfn k c E n call args h = fslow c E n call args h := by
  have hs : start args none = act (fargs 0 (sets k 0) args .nil) := by rw [fargs_eq]; rfl
  have h1 := fcode_ok E call c.body n (fargs 0 (sets k 0) args .nil) h
  rw [← hs] at h1
  simp only [fcfn, ffn, fslow] at hn ⊢
  cases hx : fcode c.body E call n (fargs 0 (sets k 0) args .nil) h with
  | out e t' h' =>
    rw [hx] at h1 hn
    have h1 : ccode E call n c.body (start args none) h = .out e (act t') h' := h1
    rw [h1]
    cases e with
    | normal => exact fres_eq c.results c.body t' h'
    | exit id => exact hn.elim
    | ret => exact fres_eq c.results c.body t' h'
  | panic d h' =>
    rw [hx] at h1
    obtain ⟨a', h2, h3⟩ := h1
    rw [h2]
    simp only [cleave, h3]
  | fail w => rw [hx] at hn; exact hn.elim
end Go.Abs
