/- The reckoner's operations made quick. -/
import Derived.Test.YtmaphdhdfbgflaaGreatDoorAbsFast
set_option linter.unusedVariables false
namespace Go.Abs

/-! Numbers. -/
def kNum (k : IntKind) : Nat := IntKind.casesOn (motive := fun _ => Nat) k 0 1 2 3 4 5 6 7
def kEq (a b : IntKind) : Bool := Nat.beq (kNum a) (kNum b)
theorem kEq_eq (a b : IntKind) : kEq a b = decide (a = b) := by cases a <;> cases b <;> rfl
def kMax (k : IntKind) : Nat :=
  match k with
  | .i8 => 127
  | .i16 => 32767
  | .i32 => 2147483647
  | .i64 => 9223372036854775807
  | .u8 => 255
  | .u16 => 65535
  | .u32 => 4294967295
  | .u64 => 18446744073709551615
theorem isOk_ofNat (k : IntKind) (m : Nat) : isOk k (.ofNat m) = Nat.ble m (kMax k) := by
  cases k <;> (rw [Bool.eq_iff_iff]; simp only [isOk, kMax, Bool.and_eq_true, decide_eq_true_eq, Nat.ble_eq, Int.ofNat_eq_natCast]; omega)
def wrapQ (k : IntKind) (n : Int) : Int := Int.casesOn (motive := fun _ => Int) n (fun m => bif Nat.ble m (kMax k) then .ofNat m else wrapF k (.ofNat m)) (fun m => wrapF k (.negSucc m))
theorem wrapQ_eq (k : IntKind) (n : Int) : wrapQ k n = wrapF k n := by
  cases n with
  | ofNat m =>
    show (bif Nat.ble m (kMax k) then Int.ofNat m else wrapF k (.ofNat m)) = _
    cases h : Nat.ble m (kMax k) with
    | true => simp only [cond_true, wrapF, isOk_ofNat, h]
    | false => rfl
  | negSucc m => rfl
def iAdd (a b : Int) : Int := Int.casesOn (motive := fun _ => Int) a (fun m => Int.casesOn (motive := fun _ => Int) b (fun n => .ofNat (Nat.add m n)) (fun n => .ofNat m + .negSucc n)) (fun m => .negSucc m + b)
theorem iAdd_eq (a b : Int) : iAdd a b = a + b := by cases a <;> cases b <;> rfl
def iSub (a b : Int) : Int := Int.casesOn (motive := fun _ => Int) a (fun m => Int.casesOn (motive := fun _ => Int) b (fun n => bif Nat.ble n m then .ofNat (Nat.sub m n) else .ofNat m - .ofNat n) (fun n => .ofNat m - .negSucc n)) (fun m => .negSucc m - b)
theorem iSub_eq (a b : Int) : iSub a b = a - b := by
  cases a with
  | negSucc m => rfl
  | ofNat m => cases b with
    | negSucc n => rfl
    | ofNat n =>
      simp only [iSub]
      cases h : Nat.ble n m with
      | false => rfl
      | true =>
        have := Nat.le_of_ble_eq_true h
        simp only [cond_true]
        show Int.ofNat (m - n) = _
        simp only [Int.ofNat_eq_natCast]; omega
def iMul (a b : Int) : Int := Int.casesOn (motive := fun _ => Int) a (fun m => Int.casesOn (motive := fun _ => Int) b (fun n => .ofNat (Nat.mul m n)) (fun n => .ofNat m * .negSucc n)) (fun m => .negSucc m * b)
theorem iMul_eq (a b : Int) : iMul a b = a * b := by cases a <;> cases b <;> rfl
def iEq (a b : Int) : Bool := Int.casesOn (motive := fun _ => Bool) a (fun m => Int.casesOn (motive := fun _ => Bool) b (fun n => Nat.beq m n) (fun n => false)) (fun m => Int.casesOn (motive := fun _ => Bool) b (fun n => false) (fun n => Nat.beq m n))
theorem beq_dec (m n : Nat) : Nat.beq m n = decide (m = n) := by
  cases h : Nat.beq m n with
  | true => simp [Nat.eq_of_beq_eq_true h]
  | false => simp; exact fun e => by subst e; rw [Nat.beq_refl] at h; cases h
theorem iEq_eq (a b : Int) : iEq a b = decide (a = b) := by
  cases a <;> cases b <;> simp [iEq, beq_dec]
  all_goals (first | omega | rfl | (rename_i m n; constructor <;> intro h <;> omega))
def iLt (a b : Int) : Bool := Int.casesOn (motive := fun _ => Bool) a (fun m => Int.casesOn (motive := fun _ => Bool) b (fun n => Nat.blt m n) (fun n => decide (Int.ofNat m < .negSucc n))) (fun m => decide (Int.negSucc m < b))
theorem blt_dec (m n : Nat) : Nat.blt m n = decide (m < n) := by
  rw [Bool.eq_iff_iff]
  simp only [Nat.blt_eq, decide_eq_true_eq]
theorem iLt_eq (a b : Int) : iLt a b = decide (a < b) := by
  cases a with
  | negSucc m => rfl
  | ofNat m => cases b with
    | negSucc n => rfl
    | ofNat n => simp only [iLt, blt_dec, Int.ofNat_eq_natCast, Int.ofNat_lt]
def iLe (a b : Int) : Bool := !iLt b a
theorem iLe_eq (a b : Int) : iLe a b = decide (a ≤ b) := by
  rw [iLe, iLt_eq]
  by_cases h : b < a
  · simp [h]
  · simp [h]; omega

abbrev FOp := Env → Call → Tr D → H → O D
/-- Two numbers of one kind; else the slow way. -/
def qint (f : IntKind → Int → Int → D) (op : BinOp) (t : TypeId) (ox oy : Operand) (g1 g2 : Tr D → D) : FOp := fun E call tr h =>
  match g1 tr with
  | .int k a => match g2 tr with
    | .int k' b => bif kEq k k' then .ok (f k a b) h else ok? (binD E op t ox oy (.int k a) (.int k' b)) h "bin"
    | y => ok? (binD E op t ox oy (.int k a) y) h "bin"
  | x => ok? (binD E op t ox oy x (g2 tr)) h "bin"
def dadd (k : IntKind) (a b : Int) : D := .int k (wrapQ k (iAdd a b))
def dsub (k : IntKind) (a b : Int) : D := .int k (wrapQ k (iSub a b))
def dmul (k : IntKind) (a b : Int) : D := .int k (wrapQ k (iMul a b))
def deql (k : IntKind) (a b : Int) : D := .v (.bool (iEq a b))
def dneq (k : IntKind) (a b : Int) : D := .v (.bool (!iEq a b))
def dlss (k : IntKind) (a b : Int) : D := .v (.bool (iLt a b))
def dleq (k : IntKind) (a b : Int) : D := .v (.bool (iLe a b))
def dgtr (k : IntKind) (a b : Int) : D := .v (.bool (iLt b a))
def dgeq (k : IntKind) (a b : Int) : D := .v (.bool (iLe b a))
def sbin (op : BinOp) (t : TypeId) (ox oy : Operand) (g1 g2 : Tr D → D) : FOp := fun E call tr h => ok? (binD E op t ox oy (g1 tr) (g2 tr)) h "bin"
def fbin (op : BinOp) (t : TypeId) (ox oy : Operand) (g1 g2 : Tr D → D) : FOp :=
  match op with
  | .add => qint dadd .add t ox oy g1 g2
  | .sub => qint dsub .sub t ox oy g1 g2
  | .mul => qint dmul .mul t ox oy g1 g2
  | .eql => qint deql .eql t ox oy g1 g2
  | .neq => qint dneq .neq t ox oy g1 g2
  | .lss => qint dlss .lss t ox oy g1 g2
  | .leq => qint dleq .leq t ox oy g1 g2
  | .gtr => qint dgtr .gtr t ox oy g1 g2
  | .geq => qint dgeq .geq t ox oy g1 g2
  | op => sbin op t ox oy g1 g2
theorem qint_eq {f : IntKind → Int → Int → D} {op : BinOp} (hf : ∀ k a b, quickBin op (.int k a) (.int k b) = some (f k a b)) (t : TypeId) (ox oy : Operand) (g1 g2 : Tr D → D) (E : Env) (call : Call) (tr : Tr D) (h : H) :
    qint f op t ox oy g1 g2 E call tr h = ok? (binD E op t ox oy (g1 tr) (g2 tr)) h "bin" := by
  simp only [qint]
  split
  · rename_i k a h1
    rw [h1]
    split
    · rename_i k' b h2
      rw [h2, kEq_eq]
      by_cases hk : k = k'
      · subst hk
        simp [binD, hf, ok?]
      · simp [hk]
    · rfl
  · rfl
theorem fbin_eq (op : BinOp) (t : TypeId) (ox oy : Operand) (g1 g2 : Tr D → D) (E : Env) (call : Call) (tr : Tr D) (h : H) :
    fbin op t ox oy g1 g2 E call tr h = ok? (binD E op t ox oy (g1 tr) (g2 tr)) h "bin" := by
  cases op <;> first
    | rfl
    | (refine qint_eq (fun k a b => ?_) t ox oy g1 g2 E call tr h
       simp [quickBin, dadd, dsub, dmul, deql, dneq, dlss, dleq, dgtr, dgeq, wrapQ_eq, iAdd_eq, iSub_eq, iMul_eq, iEq_eq, iLt_eq, iLe_eq])

/-! Reading and writing. -/
def fld1 (g : Tr D → D) : FOp := fun E call t h =>
  match g t with
  | .ptr l off => match hget h.mem l with
    | some (.cells _ cs) => match cs.drop off with
      | d :: _ => .ok d h
      | [] => .fail "load"
    | _ => .fail "load"
  | .ep cs => match cs with
    | d :: _ => .ok d h
    | [] => .fail "load"
  | _ => .fail "load"
theorem fld1_eq (g : Tr D → D) (E : Env) (call : Call) (t : Tr D) (h : H) (x : Opd) (hx : (act t).eval x = g t) : fld1 g E call t h = r_ld1 x E call (act t) h := by
  simp only [fld1, r_ld1, hx, readCells, hget_eq]
  cases g t <;> try rfl
  · rename_i l off
    dsimp only
    cases h.mem.get l with
    | none => rfl
    | some o => cases o with
      | cells ty cs => simp only []; cases hd : cs.drop off <;> simp [Nat.beq]
      | _ => rfl
  · rename_i cs
    cases cs <;> simp [Nat.beq]
def fldN (n : Nat) (g : Tr D → D) : FOp := fun E call t h =>
  match g t with
  | .ptr l off => match hget h.mem l with
    | some (.cells _ cs) => let r := (cs.drop off).take n; bif Nat.beq r.length n then .ok (.agg r) h else .fail "loadN"
    | _ => .fail "loadN"
  | x => match readCells h x n with
    | some cs => .ok (.agg cs) h
    | none => .fail "loadN"
theorem fldN_eq (n : Nat) (g : Tr D → D) (E : Env) (call : Call) (t : Tr D) (h : H) (x : Opd) (hx : (act t).eval x = g t) : fldN n g E call t h = r_ldN n x E call (act t) h := by
  simp only [fldN, r_ldN, hx, hget_eq]
  cases g t <;> try rfl
  rename_i l off
  simp only [readCells]
  cases h.mem.get l with
  | none => rfl
  | some o => cases o with
    | cells ty cs => simp only []; cases Nat.beq ((cs.drop off).take n).length n <;> rfl
    | _ => rfl
def fst1 (n : Nat) (g1 g2 : Tr D → D) : FOp := fun E call t h =>
  match g1 t with
  | .ptr l off => match hget h.mem l with
    | some (.cells ty cs) =>
      bif Nat.beq (g2 t).cells.length n && allOne (g2 t).cells then
        match patch cs off (g2 t).cells with
        | some cs => .ok undefD (fput' h l (.cells ty cs))
        | none => .fail "store"
      else .fail "store"
    | _ => .fail "store"
  | _ => .fail "store"
theorem fst1_eq (n : Nat) (g1 g2 : Tr D → D) (E : Env) (call : Call) (t : Tr D) (h : H) (x y : Opd) (hx : (act t).eval x = g1 t) (hy : (act t).eval y = g2 t) : fst1 n g1 g2 E call t h = r_st n x y E call (act t) h := by
  simp only [fst1, r_st, hx, hy, hget_eq, fput'_eq, storeD]
  cases g1 t <;> try rfl
  rename_i l off
  simp only []
  cases h.mem.get l with
  | none => rfl
  | some o => cases o with
    | cells ty cs =>
      simp only []
      cases Nat.beq (g2 t).cells.length n && allOne (g2 t).cells with
      | false => rfl
      | true => simp only [cond_true]; cases patch cs off (g2 t).cells <;> rfl
    | _ => rfl
def falloc (ty : TypeId) (z : List D) : FOp := fun E call t h => .ok (.ptr h.next 0) (fnew h (.cells ty z))
def fbox (ty : TypeId) (g : Tr D → D) : FOp := fun E call t h => .ok (.ptr h.next 0) (fnew h (.cells ty (g t).cells))
def fmkmap : FOp := fun E call t h => .ok (.map h.next) (fnew h (.map []))
def ffill (t : Tr D) (cells : List D) : List (Nat × Nat × (Tr D → D)) → Option (List D)
  | [] => some cells
  | (off, size, g) :: r => bif Nat.beq (g t).cells.length size then (match patch cells off (g t).cells with
      | some cells => ffill t cells r
      | none => none) else none
def fparts (ps : List (Nat × Nat × Opd)) : List (Nat × Nat × (Tr D → D)) := ps.map fun p => (p.1, p.2.1, fe p.2.2)
theorem ffill_eq (t : Tr D) : ∀ (ps : List (Nat × Nat × Opd)) (cells : List D), ffill t cells (fparts ps) = fillD (act t) cells ps
  | [], cells => rfl
  | (off, size, x) :: r, cells => by
    simp only [fparts, List.map_cons, ffill, fillD, fe_eq]
    cases Nat.beq ((act t).eval x).cells.length size with
    | false => rfl
    | true =>
      simp only [cond_true]
      cases patch cells off ((act t).eval x).cells with
      | none => rfl
      | some c => exact ffill_eq t r c
def fbuild (z : List D) (ps : List (Nat × Nat × (Tr D → D))) : FOp := fun E call t h =>
  match ffill t z ps with
  | some cs => .ok (.agg cs) h
  | none => .fail "build"
def fbuildSl (e : TypeId) (len : Nat) (z : List D) (ps : List (Nat × Nat × (Tr D → D))) : FOp := fun E call t h =>
  match ffill t z ps with
  | some cs => .ok (.sl h.next len cs) (fnew h (.tip len e))
  | none => .fail "buildSl"
def fmv (g : Tr D → D) : FOp := fun E call t h => .ok (g t) h
def fpick (c x y : Tr D → D) : FOp := fun E call t h =>
  match c t with
  | .v (.bool b) => .ok (bif b then x t else y t) h
  | _ => .fail "pick"
def fcint (k : IntKind) (g : Tr D → D) : FOp := fun E call t h =>
  match g t with
  | .int _ n => .ok (.int k (wrapQ k n)) h
  | _ => .fail "cint"
def fcalls (f : Nat) (gs : List (Tr D → D)) : FOp := fun E call t h => call f (evs gs t) h
def fcalld (g : Tr D → D) (gs : List (Tr D → D)) : FOp := fun E call t h => callD call (g t) (evs gs t) h
def fcallo (f : Opd) (gs : List (Tr D → D)) : FOp :=
  match f with
  | .d (.v (.func (.func n) ⟨[]⟩ ⟨[]⟩)) => fcalls n gs
  | f => fcalld (fe f) gs
theorem fcallo_eq (f : Opd) (args : List Opd) (E : Env) (call : Call) (t : Tr D) (h : H) : fcallo f (args.map fe) E call t h = r_call f args E call (act t) h := by
  unfold fcallo
  split
  · simp [fcalls, r_call, AAct.eval, callD, evs_eq]
  · simp only [fcalld, r_call, evs_eq, fe_eq]
def fmkf (fn : Fn) (xs ys : List (Tr D → D)) : FOp := fun E call t h => .ok (.func fn (evs xs t) (evs ys t)) h
def fbi (b : Builtin) (ts : Array TypeId) (ty : TypeId) (cs : Array Bool) (gs : List (Tr D → D)) : FOp := fun E call t h =>
  match plains (evs gs t) with
  | some vs => match val? E.P (builtin b ts ty cs vs.toArray) with
    | some (.value v) => .ok (.of v) h
    | _ => .fail "builtin"
  | none => .fail "builtin: args"
def u1 (r : Opd → Env → Call → AAct → H → O D) (g : Tr D → D) : FOp := fun E call t h => r (.d (g t)) E call (act t) h
def u2 (r : Opd → Opd → Env → Call → AAct → H → O D) (g1 g2 : Tr D → D) : FOp := fun E call t h => r (.d (g1 t)) (.d (g2 t)) E call (act t) h
def u3 (r : Opd → Opd → Opd → Env → Call → AAct → H → O D) (g1 g2 g3 : Tr D → D) : FOp := fun E call t h => r (.d (g1 t)) (.d (g2 t)) (.d (g3 t)) E call (act t) h
def og (g : Option (Tr D → D)) (t : Tr D) : Option Opd :=
  match g with
  | some g => some (.d (g t))
  | none => none
def feo (x : Option Opd) : Option (Tr D → D) :=
  match x with
  | some x => some (fe x)
  | none => none
def uo (r : Opd → Option Opd → Option Opd → Env → Call → AAct → H → O D) (g : Tr D → D) (lo hi : Option (Tr D → D)) : FOp := fun E call t h => r (.d (g t)) (og lo t) (og hi t) E call (act t) h
theorem og_eq (x : Option Opd) (t : Tr D) : (og (feo x) t).map (act t).eval = x.map (act t).eval := by
  cases x <;> simp [og, feo, AAct.eval, fe_eq]

/-- An operation made ready. -/
def fop : COp → FOp
  | .mv x => fmv (fe x)
  | .mvs x => u1 r_mvs (fe x)
  | .pick c x y => fpick (fe c) (fe x) (fe y)
  | .alloc t z => falloc t z
  | .box t x => fbox t (fe x)
  | .build z ps => fbuild z (fparts ps)
  | .buildSl e n z ps => fbuildSl e n z (fparts ps)
  | .ld1 x => fld1 (fe x)
  | .ldN n x => fldN n (fe x)
  | .st n x y => fst1 n (fe x) (fe y)
  | .nilCheck x => u1 r_nilCheck (fe x)
  | .bin op t ox oy x y => fbin op t ox oy (fe x) (fe y)
  | .un op x => u1 (r_un op) (fe x)
  | .cint k x => fcint k (fe x)
  | .s2b e x => u1 (r_s2b e) (fe x)
  | .b2s x => u1 r_b2s (fe x)
  | .conv s t x => u1 (r_conv s t) (fe x)
  | .iface t x => u1 (r_iface t) (fe x)
  | .mkf fn xs ys => fmkf fn (xs.map fe) (ys.map fe)
  | .mkmap => fmkmap
  | .mksl e s b z l c => u2 (r_mksl e s b z) (fe l) (fe c)
  | .slstr x lo hi => uo r_slstr (fe x) (feo lo) (feo hi)
  | .slsl s x lo hi => uo (r_slsl s) (fe x) (feo lo) (feo hi)
  | .slarr n s x lo hi => uo (r_slarr n s) (fe x) (feo lo) (feo hi)
  | .fa n x => u1 (r_fa n) (fe x)
  | .fld ag off n x => u1 (r_fld ag off n) (fe x)
  | .ixa n s x i => u2 (r_ixa n s) (fe x) (fe i)
  | .ixs s x i => u2 (r_ixs s) (fe x) (fe i)
  | .idxa ag n s x i => u2 (r_idxa ag n s) (fe x) (fe i)
  | .idxs x i => u2 r_idxs (fe x) (fe i)
  | .apps e s x => u2 (r_apps e) (fe s) (fe x)
  | .lookV kt z x k ok => u2 (fun x k => r_lookV kt z x k ok) (fe x) (fe k)
  | .msetV kt m k x => u3 (r_msetV kt) (fe m) (fe k) (fe x)
  | .look f z x k ok => u2 (fun x k => r_look f z x k ok) (fe x) (fe k)
  | .mset f m k x => u3 (r_mset f) (fe m) (fe k) (fe x)
  | .tas t z x ok => u1 (fun x => r_tas t z x ok) (fe x)
  | .ext i x => u1 (r_ext i) (fe x)
  | .call f args => fcallo f (args.map fe)
  | .app e n b s x => u2 (r_app e n b) (fe s) (fe x)
  | .lens x => u1 r_lens (fe x)
  | .len x => u1 r_len (fe x)
  | .lenm x => u1 r_lenm (fe x)
  | .copy n d s => u2 (r_copy n) (fe d) (fe s)
  | .bi b ts t cs args => fbi b ts t cs (args.map fe)
  | .panic x => u1 r_panic (fe x)
  | .dfr x => u1 r_dfr (fe x)
  | .rcv => fun E call t h => r_rcv E call (act t) h
theorem fop_eq (o : COp) (E : Env) (call : Call) (t : Tr D) (h : H) : fop o E call t h = den o E call (act t) h := by
  cases o
  case bin op ty ox oy x y => exact (fbin_eq op ty ox oy _ _ E call t h).trans (by simp only [fe_eq]; rfl)
  case ld1 x => exact fld1_eq _ E call t h x (fe_eq x t).symm
  case ldN n x => exact fldN_eq n _ E call t h x (fe_eq x t).symm
  case st n x y => exact fst1_eq n _ _ E call t h x y (fe_eq x t).symm (fe_eq y t).symm
  case call f args => exact fcallo_eq f args E call t h
  case build z ps => simp only [fop, fbuild, den, r_build, ffill_eq]; rfl
  case buildSl e n z ps => simp only [fop, fbuildSl, den, r_buildSl, ffill_eq, fnew_eq]; cases fillD (act t) z ps <;> rfl
  case mkf fn xs ys => simp only [fop, fmkf, den, r_mkf, evs_eq]
  case bi b ts ty cs args => simp only [fop, fbi, den, r_bi, evs_eq]; rfl
  case alloc ty z => simp only [fop, falloc, den, r_alloc, fnew_eq]
  case box ty x => simp only [fop, fbox, den, r_box, fnew_eq, fe_eq]
  case mkmap => simp only [fop, fmkmap, den, r_mkmap, fnew_eq]
  case slstr x lo hi => simp only [fop, uo, den, r_slstr, og_eq, fe_eq, AAct.eval]
  case slsl s x lo hi => simp only [fop, uo, den, r_slsl, og_eq, fe_eq, AAct.eval]
  case slarr n s x lo hi => simp only [fop, uo, den, r_slarr, og_eq, fe_eq, AAct.eval]
  case cint k x =>
    simp only [fop, fcint, den, r_cint, fe_eq, wrapQ_eq]; rfl
  case pick c x y => simp only [fop, fpick, den, r_pick, fe_eq]; rfl
  case mv x => simp only [fop, fmv, den, r_mv, fe_eq]
  all_goals first
    | rfl
    | (simp only [fop, u1, u2, u3, fe_eq]; rfl)
end Go.Abs
