/- A reckoner on plain data: what a call of a program comes to, reckoned on trees, in one order of operations. -/
import GoSem.Dispatch
import GoSem.Step
set_option linter.unusedVariables false
set_option linter.unusedSimpArgs false
namespace Go.Abs
noncomputable section
inductive Tr (α : Type) where
  | nil
  | node (l : Tr α) (v : Option α) (r : Tr α)
  deriving Inhabited
def Tr.get {α : Type} : Tr α → Nat → Option α
  | .nil, _ => none
  | .node l v r, k => bif Nat.beq k 0 then v else bif Nat.beq (k % 2) 1 then l.get (k / 2) else r.get (k / 2 - 1)
def Tr.setF {α : Type} : Nat → Tr α → Nat → Option α → Tr α
  | 0, t, _, _ => t
  | f + 1, .nil, k, v => bif Nat.beq k 0 then .node .nil v .nil else bif Nat.beq (k % 2) 1 then .node (Tr.setF f .nil (k / 2) v) none .nil else .node .nil none (Tr.setF f .nil (k / 2 - 1) v)
  | f + 1, .node l u r, k, v => bif Nat.beq k 0 then .node l v r else bif Nat.beq (k % 2) 1 then .node (Tr.setF f l (k / 2) v) u r else .node l u (Tr.setF f r (k / 2 - 1) v)
def Tr.set {α : Type} (t : Tr α) (k : Nat) (v : Option α) : Tr α := Tr.setF (k + 1) t k v
def Tr.ofListFrom {α : Type} : Nat → List α → Tr α → Tr α
  | _, [], t => t
  | i, x :: xs, t => Tr.ofListFrom (i + 1) xs (t.set i (some x))
def Tr.ofList {α : Type} (l : List α) : Tr α := Tr.ofListFrom 0 l .nil
inductive D where
  | v (x : Value)
  | int (k : IntKind) (n : Int)
  | str (l : List Nat)
  | ptr (l off : Nat)
  | ep (cells : List D)
  | sl (id n : Nat) (cells : List D)
  | row (l off len cap : Nat)
  | map (l : Nat)
  | agg (cs : List D)
  | tup (cs : List D)
  | func (fn : Fn) (first captured : List D)
  | iface (t : TypeId) (d : D)
  deriving Inhabited
def Yo (s : ByteArray) : List Nat := s.data.toList.map (·.toNat)
def Zur (l : List Nat) : ByteArray := ⟨(l.map UInt8.ofNat).toArray⟩
def D.of0 : Value → D
  | .int k n => .int k n
  | .string s => .str (Yo s)
  | x => .v x
def D.of : Value → D
  | .agg cs => .agg (cs.toList.map .of0)
  | .tuple vs => .tup (vs.toList.map .of0)
  | x => .of0 x
def D.plain1 : D → Option Value
  | .v x => some x
  | .int k n => some (.int k n)
  | .str l => some (.string (Zur l))
  | _ => none
def Z2u : List D → Option (List Value)
  | [] => some []
  | d :: r => match d.plain1, Z2u r with
    | some x, some l => some (x :: l)
    | _, _ => none
def D.plain0 : D → Option Value
  | .agg cs => match Z2u cs with
    | some l => some (.agg l.toArray)
    | none => none
  | d => d.plain1
def D.plain : D → Option Value
  | .iface t d => match d.plain0 with
    | some x => some (.iface t x)
    | none => none
  | d => d.plain0
def Zex : List D → Option (List Value)
  | [] => some []
  | d :: r => match d.plain, Zex r with
    | some x, some l => some (x :: l)
    | _, _ => none
def D.cells : D → List D
  | .agg cs => cs
  | .v (.agg cs) => cs.toList.map .v
  | d => [d]
def D.one : D → Bool
  | .agg _ | .tup _ | .v (.agg _) | .v (.tuple _) => false
  | _ => true
def Xa : List D → Bool
  | [] => true
  | d :: r => d.one && Xa r
def Zj : D := .tup []
inductive AObj where
  | cells (t : TypeId) (cs : List D)
  | map (es : List (D × D))
  | tip (n : Nat) (e : TypeId)
  deriving Inhabited
structure H where
  next : Nat
  mem : Tr AObj
  deriving Inhabited
def H.new (h : H) (o : AObj) : Nat × H := (h.next, ⟨h.next + 1, h.mem.set h.next (some o)⟩)
def H.put (h : H) (l : Nat) (o : AObj) : H := ⟨h.next, h.mem.set l (some o)⟩
inductive O (α : Type) where
  | ok (a : α) (h : H)
  | panic (d : D) (h : H)
  | fail (why : String)
  deriving Inhabited
def O.mk (p : Bool) (d : D) (h : H) : O D :=
  match p with
  | false => .ok d h
  | true => .panic d h
def Zeo {α : Type} (p : Program) : Sem α → Option α
  | .pure a => some a
  | .program k => Zeo p (k p)
  | .mark _ k => Zeo p k
  | _ => none
def Zk (h : H) (a : D) (n : Nat) : Option (List D) :=
  match a with
  | .ptr l off => match h.mem.get l with
    | some (.cells _ cs) => let r := (cs.drop off).take n; bif Nat.beq r.length n then some r else none
    | _ => none
  | .ep cs => let r := cs.take n; bif Nat.beq r.length n then some r else none
  | _ => none
def patch (cs : List D) (off : Nat) (xs : List D) : Option (List D) :=
  bif Nat.ble (off + xs.length) cs.length then some (cs.take off ++ xs ++ cs.drop (off + xs.length)) else none
def Zix (h : H) (size : Nat) (a x : D) : Option H :=
  match a with
  | .ptr l off => match h.mem.get l with
    | some (.cells t cs) =>
      bif Nat.beq x.cells.length size && Xa x.cells then
        match patch cs off x.cells with
        | some cs => some (h.put l (.cells t cs))
        | none => none
      else none
    | _ => none
  | _ => none
def Yd (h : H) (size : Nat) : D → Option (Nat × List D)
  | .v (.slice none 0 0) => some (0, [])
  | .sl _ n cs => bif Nat.beq cs.length (n * size) then some (n, cs) else none
  | .row l off len _ => match Zk h (.ptr l off) (len * size) with
    | some cs => some (len, cs)
    | none => none
  | _ => none
def Xn (l : List Nat) : List D := l.map fun b => .int .u8 (.ofNat b)
def V4 : List D → Option (List Nat)
  | [] => some []
  | .int .u8 (.ofNat n) :: r => match V4 r with
    | some l => bif Nat.blt n 256 then some (n :: l) else none
    | none => none
  | _ :: _ => none
def repeatL (l : List D) : Nat → List D
  | 0 => []
  | n + 1 => l ++ repeatL l n
def Wl (h : H) (e : TypeId) (size bytes : Nat) (s x : D) : O D :=
  match Yd h size x with
  | some (m, ys) =>
    bif Nat.beq m 0 then (match s with
      | .v (.slice none 0 0) | .sl _ _ _ => .ok s h
      | _ => .fail "append: nothing") else
    bif Xa ys && Nat.beq ys.length (m * size) && !Nat.beq size 0 then
    match s with
    | .v (.slice none 0 0) =>
      bif Nat.ble (m * bytes) 140737488355328 && Nat.ble m 140737488355328 then
      let (id, h) := h.new (.tip m e)
      .ok (.sl id m ys) h
      else .fail "append: size"
    | .sl id n cs => match h.mem.get id with
      | some (.tip k u) => bif Nat.beq k n && Nat.beq u e && Nat.beq cs.length (n * size) && Nat.ble ((n + m) * bytes) 140737488355328 && Nat.ble (n + m) 140737488355328 then .ok (.sl id (n + m) (cs ++ ys)) (h.put id (.tip (n + m) e)) else .fail "append: not the tip"
      | _ => .fail "append: no tip"
    | _ => .fail "append: no slice"
    else .fail "append: cells"
  | none => .fail "append: what?"
def Zcm (h : H) (e : TypeId) (s x : D) : O D :=
  match x with
  | .str bs =>
    bif Nat.beq bs.length 0 then (match s with
      | .v (.slice none 0 0) | .sl _ _ _ => .ok s h
      | _ => .fail "append: nothing") else
    match s with
    | .v (.slice none 0 0) =>
      bif Nat.ble bs.length 140737488355328 then
      let (id, h) := h.new (.tip bs.length e)
      .ok (.sl id bs.length (Xn bs)) h
      else .fail "append: size"
    | .sl id n cs => match h.mem.get id with
      | some (.tip k u) => bif Nat.beq k n && Nat.beq u e && Nat.beq cs.length n && Nat.ble (n + bs.length) 140737488355328 then .ok (.sl id (n + bs.length) (cs ++ Xn bs)) (h.put id (.tip (n + bs.length) e)) else .fail "append: not the tip"
      | _ => .fail "append: no tip"
    | _ => .fail "append: no slice"
  | _ => .fail "append: what?"
def Z21 (len cap : Nat) : Option D → Option Nat
  | none => some len
  | some (.int _ (.ofNat n)) => bif Nat.ble n cap then some n else none
  | some _ => none
def loD (h : Nat) : Option D → Option (Nat × Nat)
  | none => some (0, h)
  | some (.int _ (.ofNat n)) => bif Nat.ble n h then some (n, h) else none
  | some _ => none
def XV (len cap : Nat) (lo hi : Option D) : Option (Nat × Nat) :=
  match Z21 len cap hi with
  | some h => loD h lo
  | none => none
def Zlj (size : Nat) (x : D) (lo hi : Option D) : Option D :=
  match x with
  | .v (.slice none 0 0) => match XV 0 0 lo hi with
    | some _ => some x
    | none => none
  | .sl id n cs => match XV n n lo hi with
    | some (l, k) =>
      bif Nat.beq l 0 && Nat.beq k n then some x else some (.sl 0 (k - l) ((cs.drop (l * size)).take ((k - l) * size)))
    | none => none
  | .row b off len cap => match XV len cap lo hi with
    | some (l, k) => bif Nat.beq l cap then none else some (.row b (off + l * size) (k - l) (cap - l))
    | none => none
  | _ => none
def Zro (n size : Nat) (x : D) (lo hi : Option D) : Option D :=
  match x with
  | .ptr b off => match XV n n lo hi with
    | some (l, k) => bif Nat.beq l n then none else some (.row b (off + l * size) (k - l) (n - l))
    | none => none
  | .ep cs => match XV n n lo hi with
    | some (l, k) => bif Nat.beq l n then none else some (.sl 0 (k - l) ((cs.drop (l * size)).take ((k - l) * size)))
    | none => none
  | _ => none
def V3 (i : D) (n : Nat) : Option Nat :=
  match i with
  | .int _ (.ofNat i) => bif Nat.blt i n then some i else none
  | _ => none
def Zhg (n size : Nat) (x i : D) : Option D :=
  match V3 i n, x with
  | some i, .ptr l off => some (.ptr l (off + i * size))
  | some i, .ep cs => some (.ep (cs.drop (i * size)))
  | _, _ => none
def Zb6 (size : Nat) (x i : D) : Option D :=
  match x with
  | .sl _ n cs => match V3 i n with
    | some i => match cs.drop (i * size) with
      | [] => none
      | c :: r => some (.ep (c :: r))
    | none => none
  | .row l off n _ => match V3 i n with
    | some i => some (.ptr l (off + i * size))
    | none => none
  | _ => none
def Ua : List Nat → List Nat → Bool
  | [], [] => true
  | a :: x, b :: y => Nat.beq a b && Ua x y
  | _, _ => false
def VU : D → D → Option Bool
  | .int j a, .int k b => bif decide (j = k) then some (decide (a = b)) else none
  | .str a, .str b => some (Ua a b)
  | .v (.bool a), .v (.bool b) => some (bif a then b else !b)
  | _, _ => none
def Zad (k : D) : List (D × D) → Option (Option D)
  | [] => some none
  | (q, d) :: r => match VU k q with
    | some true => some (some d)
    | some false => Zad k r
    | none => none
def Zga (k : D) (d : D) : List (D × D) → Option (List (D × D))
  | [] => some [(k, d)]
  | (q, e) :: r => match VU k q with
    | some true => some ((q, d) :: r)
    | some false => match Zga k d r with
      | some r => some ((q, e) :: r)
      | none => none
    | none => none
def Za0 : Nat → D → Bool
  | 0, .int _ _ => true
  | 1, .str _ => true
  | 2, .v (.bool _) => true
  | _, _ => false
def Zr8 (desc : Option TypeDesc) (a b : D) : Option Bool :=
  match desc, a, b with
  | some (.slice _), .v (.slice none _ _), .sl .. | some (.slice _), .v (.slice none _ _), .row .. | some (.slice _), .sl .., .v (.slice none _ _) | some (.slice _), .row .., .v (.slice none _ _) => some false
  | some (.pointer _), .v (.pointer none), .ptr .. | some (.pointer _), .v (.pointer none), .ep .. | some (.pointer _), .ptr .., .v (.pointer none) | some (.pointer _), .ep .., .v (.pointer none) => some false
  | some (.map _ _), .v (.map none), .map _ | some (.map _ _), .map _, .v (.map none) => some false
  | some (.func _ _ _), .v .nilFunc, .func .. | some (.func _ _ _), .func .., .v .nilFunc => some false
  | some (.interface _), .v .nilIface, .iface .. | some (.interface _), .iface .., .v .nilIface => some false
  | _, _, _ => none
inductive Opd where
  | t (n : Nat)
  | d (d : D)
  deriving Inhabited
inductive COp where
  | mv (x : Opd)
  | mvs (x : Opd)
  | pick (c a b : Opd)
  | alloc (t : TypeId) (z : List D)
  | box (t : TypeId) (x : Opd)
  | build (z : List D) (parts : List (Nat × Nat × Opd))
  | buildSl (e : TypeId) (len : Nat) (z : List D) (parts : List (Nat × Nat × Opd))
  | ld1 (a : Opd)
  | ldN (n : Nat) (a : Opd)
  | st (n : Nat) (a x : Opd)
  | nilCheck (x : Opd)
  | bin (op : BinOp) (t : TypeId) (ox oy : Operand) (x y : Opd)
  | un (op : UnOp) (x : Opd)
  | cint (k : IntKind) (x : Opd)
  | s2b (e : TypeId) (x : Opd)
  | b2s (x : Opd)
  | conv (s t : TypeId) (x : Opd)
  | iface (t : TypeId) (x : Opd)
  | mkf (fn : Fn) (first captured : List Opd)
  | mkmap
  | mksl (e : TypeId) (size bytes : Nat) (z : List D) (l c : Opd)
  | slstr (x : Opd) (lo hi : Option Opd)
  | slsl (size : Nat) (x : Opd) (lo hi : Option Opd)
  | slarr (n size : Nat) (x : Opd) (lo hi : Option Opd)
  | fa (off : Nat) (x : Opd)
  | fld (ag : Bool) (off n : Nat) (x : Opd)
  | ixa (n size : Nat) (x i : Opd)
  | ixs (size : Nat) (x i : Opd)
  | idxa (ag : Bool) (n size : Nat) (x i : Opd)
  | idxs (x i : Opd)
  | apps (e : TypeId) (s x : Opd)
  | lookV (kt : TypeId) (z : D) (x k : Opd) (ok : Bool)
  | msetV (kt : TypeId) (m k x : Opd)
  | look (kd : Nat) (z : D) (x k : Opd) (ok : Bool)
  | mset (kd : Nat) (m k x : Opd)
  | tas (t : TypeId) (z : D) (x : Opd) (ok : Bool)
  | ext (i : Nat) (x : Opd)
  | call (f : Opd) (args : List Opd)
  | app (e : TypeId) (size bytes : Nat) (s x : Opd)
  | lens (x : Opd)
  | len (x : Opd)
  | lenm (x : Opd)
  | copy (size : Nat) (d s : Opd)
  | bi (b : Builtin) (argTypes : Array TypeId) (type : TypeId) (consts : Array Bool) (args : List Opd)
  | panic (x : Opd)
  | dfr (f : Opd)
  | rcv
  deriving Inhabited
structure CO where
  dst : Option Nat
  guard : Option (Nat × Bool)
  op : COp
  deriving Inhabited
inductive CC where
  | skip
  | ops (l : List CO)
  | draw (inc : List (List Nat)) (l : List CO)
  | seq (a b : CC)
  | cond (c : Opd) (a b : CC)
  | block (id : Nat) (c : CC)
  | loop (c : CC)
  | exit (id : Nat)
  | ret
  | stop
  | back (ag : Bool) (size : Nat) (gs : List Nat) (f : Opd) (x y : Nat) (assign body : CC)
  deriving Inhabited
inductive CRes where
  | t (n : Nat)
  | c1 (n : Nat)
  | cN (n size : Nat)
  deriving Inhabited
structure CFn where
  results : List CRes
  body : CC
  deriving Inhabited
structure Env where
  P : Program
  fns : Nat → Option CFn
  lib : Nat → Option (List D → H → O D)
  dfrs : Nat → Option (Option Nat × CC)
variable (E : Env)
structure AAct where
  tmps : Tr D
  defers : List D
  rec? : Option D
  recd : Bool
  deriving Inhabited
def AAct.eval (a : AAct) : Opd → D
  | .t n => match a.tmps.get n with
    | some d => d
    | none => Zj
  | .d d => d
def AAct.evals (a : AAct) : List Opd → List D
  | [] => []
  | x :: r => a.eval x :: a.evals r
def AAct.put (a : AAct) (dst : Option Nat) (d : D) : AAct :=
  match dst with
  | some t => { a with tmps := a.tmps.set t (some d) }
  | none => a
def Uu (o : Option D) (h : H) (why : String) : O D :=
  match o with
  | some d => .ok d h
  | none => .fail why
def Zb9 (a : AAct) (cells : List D) : List (Nat × Nat × Opd) → Option (List D)
  | [] => some cells
  | (off, size, x) :: r =>
    let d := a.eval x
    bif Nat.beq d.cells.length size then
      match patch cells off d.cells with
      | some cells => Zb9 a cells r
      | none => none
    else none
def Zkf (ag : Bool) (n : Nat) (cs : List D) (off : Nat) : Option D :=
  bif ag then
    let r := (cs.drop off).take n
    bif Nat.beq r.length n then some (.agg r) else none
  else match cs.drop off with
    | d :: _ => some d
    | [] => none
def Z5w (i : IntKind) (n : Int) : Bool :=
  match i with
  | .i8 => decide (-128 ≤ n) && decide (n ≤ 127)
  | .i16 => decide (-32768 ≤ n) && decide (n ≤ 32767)
  | .i32 => decide (-2147483648 ≤ n) && decide (n ≤ 2147483647)
  | .i64 => decide (-9223372036854775808 ≤ n) && decide (n ≤ 9223372036854775807)
  | .u8 => decide (0 ≤ n) && decide (n ≤ 255)
  | .u16 => decide (0 ≤ n) && decide (n ≤ 65535)
  | .u32 => decide (0 ≤ n) && decide (n ≤ 4294967295)
  | .u64 => decide (0 ≤ n) && decide (n ≤ 18446744073709551615)
def Zf3 (k : IntKind) (n : Int) : Int := bif Z5w k n then n else k.wrap n
def VZ (op : BinOp) (x y : D) : Option D :=
  match x, y with
  | .int k a, .int k' b =>
    match op with
    | .add => bif decide (k = k') then some (.int k (Zf3 k (a + b))) else none
    | .sub => bif decide (k = k') then some (.int k (Zf3 k (a - b))) else none
    | .mul => bif decide (k = k') then some (.int k (Zf3 k (a * b))) else none
    | .eql => bif decide (k = k') then some (.v (.bool (decide (a = b)))) else none
    | .neq => bif decide (k = k') then some (.v (.bool (!decide (a = b)))) else none
    | .lss => bif decide (k = k') then some (.v (.bool (decide (a < b)))) else none
    | .leq => bif decide (k = k') then some (.v (.bool (decide (a ≤ b)))) else none
    | .gtr => bif decide (k = k') then some (.v (.bool (decide (b < a)))) else none
    | .geq => bif decide (k = k') then some (.v (.bool (decide (b ≤ a)))) else none
    | _ => none
  | .str a, .str b =>
    match op with
    | .eql => some (.v (.bool (Ua a b)))
    | .neq => some (.v (.bool (!Ua a b)))
    | .add => bif Nat.ble (a.length + b.length) 140737488355328 then some (.str (a ++ b)) else none
    | _ => none
  | _, _ => none
def Zcr (op : BinOp) (t : TypeId) (ox oy : Operand) (x y : D) : Option D :=
  match VZ op x y with
  | some d => some d
  | none => match x.plain, y.plain with
    | some a, some b => match Zeo E.P (do eqGuard op t ox oy a b; binOp op t a b) with
      | some v => some (.of v)
      | none => none
    | _, _ => match op, Zr8 (E.P.underlying t) x y with
      | .eql, some b => some (.v (.bool b))
      | .neq, some b => some (.v (.bool !b))
      | _, _ => none
def Zh6 (call : Nat → List D → H → O D) (f : D) (args : List D) (h : H) : O D :=
  match f with
  | .v (.func (.func f) first captured) => call f (first.toList.map .of ++ args ++ captured.toList.map .of) h
  | .func (.func f) first captured => call f (first ++ args ++ captured) h
  | _ => .fail "call: what?"
abbrev Call := Nat → List D → H → O D
def Zvl (x : Opd) (E : Env) (call : Call) (a : AAct) (h : H) : O D :=
  .ok (a.eval x) h
def Zmk (x : Opd) (E : Env) (call : Call) (a : AAct) (h : H) : O D :=
  match a.eval x with
  | .str l => .ok (.str l) h
  | _ => .fail "string"
def Zge (c : Opd) (x : Opd) (y : Opd) (E : Env) (call : Call) (a : AAct) (h : H) : O D :=
  match a.eval c with
    | .v (.bool b) => .ok (bif b then a.eval x else a.eval y) h
    | _ => .fail "pick"
def Zcy (t : TypeId) (z : List D) (E : Env) (call : Call) (a : AAct) (h : H) : O D :=
  let (l, h) := h.new (.cells t z); .ok (.ptr l 0) h
def Zmn (t : TypeId) (x : Opd) (E : Env) (call : Call) (a : AAct) (h : H) : O D :=
  let (l, h) := h.new (.cells t (a.eval x).cells); .ok (.ptr l 0) h
def UU (z : List D) (parts : List (Nat × Nat × Opd)) (E : Env) (call : Call) (a : AAct) (h : H) : O D :=
  match Zb9 a z parts with
    | some cs => .ok (.agg cs) h
    | none => .fail "build"
def Vx (e : TypeId) (len : Nat) (z : List D) (parts : List (Nat × Nat × Opd)) (E : Env) (call : Call) (a : AAct) (h : H) : O D :=
  match Zb9 a z parts with
    | some cs => let (id, h) := h.new (.tip len e); .ok (.sl id len cs) h
    | none => .fail "buildSl"
def Zhu (x : Opd) (E : Env) (call : Call) (a : AAct) (h : H) : O D :=
  match Zk h (a.eval x) 1 with
    | some [d] => .ok d h
    | _ => .fail "load"
def Zht (n : Nat) (x : Opd) (E : Env) (call : Call) (a : AAct) (h : H) : O D :=
  match Zk h (a.eval x) n with
    | some cs => .ok (.agg cs) h
    | none => .fail "loadN"
def Zs5 (n : Nat) (x : Opd) (y : Opd) (E : Env) (call : Call) (a : AAct) (h : H) : O D :=
  match Zix h n (a.eval x) (a.eval y) with
    | some h => .ok Zj h
    | none => .fail "store"
def XJ (x : Opd) (E : Env) (call : Call) (a : AAct) (h : H) : O D :=
  match a.eval x with
    | .ptr l off => .ok (.ptr l off) h
    | .ep cs => .ok (.ep cs) h
    | .func (.func f) x y => .ok (.func (.func f) x y) h
    | .v (.func (.func f) x y) => .ok (.v (.func (.func f) x y)) h
    | _ => .fail "nil"
def Zpc (op : BinOp) (t : TypeId) (ox : Operand) (oy : Operand) (x : Opd) (y : Opd) (E : Env) (call : Call) (a : AAct) (h : H) : O D :=
  Uu (Zcr E op t ox oy (a.eval x) (a.eval y)) h "bin"
def Zdr (op : UnOp) (x : Opd) (E : Env) (call : Call) (a : AAct) (h : H) : O D :=
  match op, a.eval x with
    | .not, .v (.bool b) => .ok (.v (.bool !b)) h
    | op, d => match d.plain with
      | some u => match Zeo E.P (Op.unary op u) with
        | some v => .ok (.of v) h
        | none => .fail "un"
      | none => .fail "un"
def Zgh (k : IntKind) (x : Opd) (E : Env) (call : Call) (a : AAct) (h : H) : O D :=
  match a.eval x with
    | .int _ n => .ok (.int k (Zf3 k n)) h
    | _ => .fail "cint"
def Zet (e : TypeId) (x : Opd) (E : Env) (call : Call) (a : AAct) (h : H) : O D :=
  match a.eval x with
    | .str l => .ok (.sl 0 l.length (Xn l)) h
    | _ => .fail "s2b"
def Zbr (x : Opd) (E : Env) (call : Call) (a : AAct) (h : H) : O D :=
  match Yd h 1 (a.eval x) with
    | some (_, cs) => match V4 cs with
      | some l => .ok (.str l) h
      | none => .fail "b2s"
    | none => .fail "b2s"
def Zgg (s : TypeId) (t : TypeId) (x : Opd) (E : Env) (call : Call) (a : AAct) (h : H) : O D :=
  match (a.eval x).plain with
    | some u => match Zeo E.P (convert s t u) with
      | some v => .ok (.of v) h
      | none => .fail "conv"
    | none => .fail "conv"
def XF (t : TypeId) (x : Opd) (E : Env) (call : Call) (a : AAct) (h : H) : O D :=
  .ok (.iface t (a.eval x)) h
def Zml (fn : Fn) (x : List Opd) (y : List Opd) (E : Env) (call : Call) (a : AAct) (h : H) : O D :=
  .ok (.func fn (a.evals x) (a.evals y)) h
def Zcx  (E : Env) (call : Call) (a : AAct) (h : H) : O D :=
  let (l, h) := h.new (.map []); .ok (.map l) h
def UW (e : TypeId) (size : Nat) (bytes : Nat) (z : List D) (l : Opd) (c : Opd) (E : Env) (call : Call) (a : AAct) (h : H) : O D :=
  match a.eval l, a.eval c with
    | .int _ (.ofNat n), .int _ (.ofNat m) =>
      bif Nat.ble m 140737488355328 && Nat.ble (m * bytes) 140737488355328 then
        bif Nat.beq n m then let (l, h) := h.new (.cells e (repeatL z n)); .ok (.row l 0 n n) h
        else bif Nat.beq n 0 then let (id, h) := h.new (.tip 0 e); .ok (.sl id 0 []) h
        else .fail "makeSlice"
      else .fail "makeSlice"
    | _, _ => .fail "makeSlice"
def Za6 (x : Opd) (lo : Option Opd) (hi : Option Opd) (E : Env) (call : Call) (a : AAct) (h : H) : O D :=
  match a.eval x with
    | .str s => match XV s.length s.length (lo.map a.eval) (hi.map a.eval) with
      | some (l, k) => .ok (.str ((s.drop l).take (k - l))) h
      | none => .fail "slice: string"
    | _ => .fail "slice: string"
def UV (size : Nat) (x : Opd) (lo : Option Opd) (hi : Option Opd) (E : Env) (call : Call) (a : AAct) (h : H) : O D :=
  Uu (Zlj size (a.eval x) (lo.map a.eval) (hi.map a.eval)) h "slice"
def VW (n : Nat) (size : Nat) (x : Opd) (lo : Option Opd) (hi : Option Opd) (E : Env) (call : Call) (a : AAct) (h : H) : O D :=
  Uu (Zro n size (a.eval x) (lo.map a.eval) (hi.map a.eval)) h "slice: array"
def Zke (off : Nat) (x : Opd) (E : Env) (call : Call) (a : AAct) (h : H) : O D :=
  match a.eval x with
    | .ptr l o => .ok (.ptr l (o + off)) h
    | .ep cs => .ok (.ep (cs.drop off)) h
    | _ => .fail "fieldAddr"
def Zdg (ag : Bool) (off : Nat) (n : Nat) (x : Opd) (E : Env) (call : Call) (a : AAct) (h : H) : O D :=
  match a.eval x with
    | .agg cs => Uu (Zkf ag n cs off) h "field"
    | _ => .fail "field"
def Zev (n : Nat) (size : Nat) (x : Opd) (i : Opd) (E : Env) (call : Call) (a : AAct) (h : H) : O D :=
  Uu (Zhg n size (a.eval x) (a.eval i)) h "index: array"
def Zeu (size : Nat) (x : Opd) (i : Opd) (E : Env) (call : Call) (a : AAct) (h : H) : O D :=
  Uu (Zb6 size (a.eval x) (a.eval i)) h "index: slice"
def UZ (ag : Bool) (n : Nat) (size : Nat) (x : Opd) (i : Opd) (E : Env) (call : Call) (a : AAct) (h : H) : O D :=
  match a.eval x, V3 (a.eval i) n with
    | .agg cs, some i => Uu (Zkf ag size cs (i * size)) h "index: value"
    | _, _ => .fail "index: value"
def UY (x : Opd) (i : Opd) (E : Env) (call : Call) (a : AAct) (h : H) : O D :=
  match a.eval x, a.eval i with
    | .str s, .int _ (.ofNat i) => match s.drop i with
      | b :: _ => .ok (.int .u8 (.ofNat b)) h
      | [] => .fail "index: string"
    | _, _ => .fail "index: string"
def Zwt (P : Program) (kt : TypeId) (kv : Value) : List (D × D) → Option (Option D)
  | [] => some none
  | (q, d) :: r => match q.plain with
    | some qv => match Zeo P (Op.equal kt kv qv) with
      | some true => some (some d)
      | some false => Zwt P kt kv r
      | none => none
    | none => none
def Z4a (P : Program) (kt : TypeId) (k : D) (kv : Value) (d : D) : List (D × D) → Option (List (D × D))
  | [] => some [(k, d)]
  | (q, e) :: r => match q.plain with
    | some qv => match Zeo P (Op.equal kt kv qv) with
      | some true => bif Instr.sameBits 10000 qv kv then some ((k, d) :: r) else none
      | some false => match Z4a P kt k kv d r with
        | some r => some ((q, e) :: r)
        | none => none
      | none => none
    | none => none
def Zwb (h : H) : D → Option (List (D × D))
  | .v (.map none) => some []
  | .map l => match h.mem.get l with
    | some (.map es) => some es
    | _ => none
  | _ => none
def VY (kt : TypeId) (z : D) (x : Opd) (k : Opd) (ok : Bool) (E : Env) (call : Call) (a : AAct) (h : H) : O D :=
  match (a.eval k).plain, Zwb h (a.eval x) with
  | some kv, some es => match Zeo E.P (Instr.checkKey es.isEmpty 10000 kt kv), Zwt E.P kt kv es with
    | some _, some (some d) => .ok (bif ok then .tup [d, .v (.bool true)] else d) h
    | some _, some none => .ok (bif ok then .tup [z, .v (.bool false)] else z) h
    | _, _ => .fail "lookup: struct key"
  | _, _ => .fail "lookup: struct"
def UT (kt : TypeId) (m : Opd) (k : Opd) (x : Opd) (E : Env) (call : Call) (a : AAct) (h : H) : O D :=
  match a.eval m, (a.eval k).plain with
  | .map l, some kv => match h.mem.get l with
    | some (.map es) => match Zeo E.P (Instr.checkKey false 10000 kt kv), Z4a E.P kt (a.eval k) kv (a.eval x) es with
      | some _, some es => .ok Zj (h.put l (.map es))
      | _, _ => .fail "mapUpdate: struct key"
    | _ => .fail "mapUpdate"
  | _, _ => .fail "mapUpdate"
def UX (flat : Nat) (z : D) (x : Opd) (k : Opd) (ok : Bool) (E : Env) (call : Call) (a : AAct) (h : H) : O D :=
  bif Za0 flat (a.eval k) then match (match a.eval x with
        | .v (.map none) => some []
        | .map l => match h.mem.get l with
          | some (.map es) => some es
          | _ => none
        | _ => none) with
      | some es => match Zad (a.eval k) es with
        | some (some d) => .ok (bif ok then .tup [d, .v (.bool true)] else d) h
        | some none => .ok (bif ok then .tup [z, .v (.bool false)] else z) h
        | none => .fail "lookup: key"
      | none => .fail "lookup"
    else .fail "lookup"
def Zcz (flat : Nat) (m : Opd) (k : Opd) (x : Opd) (E : Env) (call : Call) (a : AAct) (h : H) : O D :=
  match a.eval m with
    | .map l => bif Za0 flat (a.eval k) then match h.mem.get l with
      | some (.map es) => match Zga (a.eval k) (a.eval x) es with
        | some es => .ok Zj (h.put l (.map es))
        | none => .fail "mapUpdate: key"
      | _ => .fail "mapUpdate"
      else .fail "mapUpdate"
    | _ => .fail "mapUpdate"
def Zmj (t : TypeId) (z : D) (x : Opd) (ok : Bool) (E : Env) (call : Call) (a : AAct) (h : H) : O D :=
  match a.eval x with
    | .v .nilIface => bif ok then .ok (.tup [z, .v (.bool false)]) h else .fail "typeAssert"
    | .iface u d => bif Nat.beq u t then .ok (bif ok then .tup [d, .v (.bool true)] else d) h else
        bif ok then .ok (.tup [z, .v (.bool false)]) h else .fail "typeAssert"
    | _ => .fail "typeAssert"
def Zew (i : Nat) (x : Opd) (E : Env) (call : Call) (a : AAct) (h : H) : O D :=
  match a.eval x with
    | .tup ds => Uu (ds[i]?) h "extract"
    | _ => .fail "extract"
def Zlp (f : Opd) (args : List Opd) (E : Env) (call : Call) (a : AAct) (h : H) : O D :=
  Zh6 call (a.eval f) (a.evals args) h
def Zgi (e : TypeId) (size : Nat) (bytes : Nat) (s : Opd) (x : Opd) (E : Env) (call : Call) (a : AAct) (h : H) : O D :=
  Wl h e size bytes (a.eval s) (a.eval x)
def Za7 (x : Opd) (E : Env) (call : Call) (a : AAct) (h : H) : O D :=
  match a.eval x with
  | .str l => .ok (.int .i64 (.ofNat l.length)) h
  | _ => .fail "len"
def Zdf (x : Opd) (E : Env) (call : Call) (a : AAct) (h : H) : O D :=
  match a.eval x with
  | .sl _ n _ => .ok (.int .i64 (.ofNat n)) h
  | .row _ _ n _ => .ok (.int .i64 (.ofNat n)) h
  | .v (.slice none 0 0) => .ok (.int .i64 (.ofNat 0)) h
  | _ => .fail "len"
def Zes (x : Opd) (E : Env) (call : Call) (a : AAct) (h : H) : O D :=
  match a.eval x with
    | .map l => match h.mem.get l with
      | some (.map es) => .ok (.int .i64 (.ofNat es.length)) h
      | _ => .fail "len"
    | _ => .fail "len"
def Zpb (size : Nat) (d : Opd) (s : Opd) (E : Env) (call : Call) (a : AAct) (h : H) : O D :=
  match a.eval d, Yd h size (a.eval s) with
    | .row l off n _, some (m, ys) => match h.mem.get l with
      | some (.cells t cs) => bif Xa ys && Nat.beq ys.length (m * size) then
          match patch cs off (ys.take (min m n * size)) with
          | some cs => .ok (.int .i64 (.ofNat (min m n))) (h.put l (.cells t cs))
          | none => .fail "copy"
        else .fail "copy"
      | _ => .fail "copy"
    | _, _ => .fail "copy"
def Zvr (b : Builtin) (ts : Array TypeId) (t : TypeId) (cs : Array Bool) (args : List Opd) (E : Env) (call : Call) (a : AAct) (h : H) : O D :=
  match Zex (a.evals args) with
    | some vs => match Zeo E.P (builtin b ts t cs vs.toArray) with
      | some (.value v) => .ok (.of v) h
      | _ => .fail "builtin"
    | none => .fail "builtin: args"
def Zc0 (e : TypeId) (s : Opd) (x : Opd) (E : Env) (call : Call) (a : AAct) (h : H) : O D :=
  Zcm h e (a.eval s) (a.eval x)
def US (x : Opd) (E : Env) (call : Call) (a : AAct) (h : H) : O D :=
  match a.eval x with
    | .iface t d => .panic (.iface t d) h
    | _ => .fail "panic"
def Zpa (q0 : Opd) (E : Env) (call : Call) (a : AAct) (h : H) : O D :=
  .fail "defer"
def Zvk  (E : Env) (call : Call) (a : AAct) (h : H) : O D :=
  .fail "recover"
def Ww : COp → Env → Call → AAct → H → O D
  | .mv q0 => Zvl q0
  | .mvs q0 => Zmk q0
  | .pick q0 q1 q2 => Zge q0 q1 q2
  | .alloc q0 q1 => Zcy q0 q1
  | .box q0 q1 => Zmn q0 q1
  | .build q0 q1 => UU q0 q1
  | .buildSl q0 q1 q2 q3 => Vx q0 q1 q2 q3
  | .ld1 q0 => Zhu q0
  | .ldN q0 q1 => Zht q0 q1
  | .st q0 q1 q2 => Zs5 q0 q1 q2
  | .nilCheck q0 => XJ q0
  | .bin q0 q1 q2 q3 q4 q5 => Zpc q0 q1 q2 q3 q4 q5
  | .un q0 q1 => Zdr q0 q1
  | .cint q0 q1 => Zgh q0 q1
  | .s2b q0 q1 => Zet q0 q1
  | .b2s q0 => Zbr q0
  | .conv q0 q1 q2 => Zgg q0 q1 q2
  | .iface q0 q1 => XF q0 q1
  | .mkf q0 q1 q2 => Zml q0 q1 q2
  | .mkmap => Zcx
  | .mksl q0 q1 q2 q3 q4 q5 => UW q0 q1 q2 q3 q4 q5
  | .slstr q0 q1 q2 => Za6 q0 q1 q2
  | .slsl q0 q1 q2 q3 => UV q0 q1 q2 q3
  | .slarr q0 q1 q2 q3 q4 => VW q0 q1 q2 q3 q4
  | .fa q0 q1 => Zke q0 q1
  | .fld q0 q1 q2 q3 => Zdg q0 q1 q2 q3
  | .ixa q0 q1 q2 q3 => Zev q0 q1 q2 q3
  | .ixs q0 q1 q2 => Zeu q0 q1 q2
  | .idxa q0 q1 q2 q3 q4 => UZ q0 q1 q2 q3 q4
  | .idxs q0 q1 => UY q0 q1
  | .apps q0 q1 q2 => Zc0 q0 q1 q2
  | .lookV q0 q1 q2 q3 q4 => VY q0 q1 q2 q3 q4
  | .msetV q0 q1 q2 q3 => UT q0 q1 q2 q3
  | .look q0 q1 q2 q3 q4 => UX q0 q1 q2 q3 q4
  | .mset q0 q1 q2 q3 => Zcz q0 q1 q2 q3
  | .tas q0 q1 q2 q3 => Zmj q0 q1 q2 q3
  | .ext q0 q1 => Zew q0 q1
  | .call q0 q1 => Zlp q0 q1
  | .app q0 q1 q2 q3 q4 => Zgi q0 q1 q2 q3 q4
  | .lens q0 => Za7 q0
  | .len q0 => Zdf q0
  | .lenm q0 => Zes q0
  | .copy q0 q1 q2 => Zpb q0 q1 q2
  | .bi q0 q1 q2 q3 q4 => Zvr q0 q1 q2 q3 q4
  | .panic q0 => US q0
  | .dfr q0 => Zpa q0
  | .rcv => Zvk
def Zce (call : Call) (a : AAct) (o : COp) (h : H) : O D := Ww o E call a h
inductive AExit where
  | normal
  | exit (id : Nat)
  | ret
  deriving Inhabited
inductive X where
  | out (e : AExit) (a : AAct) (h : H)
  | panic (d : D) (a : AAct) (h : H)
  | fail (why : String)
  deriving Inhabited
inductive AEnd where
  | exit (e : AExit)
  | panic (d : D)
def X.mk (r : AEnd) (a : AAct) (h : H) : X :=
  match r with
  | .exit e => .out e a h
  | .panic d => .panic d a h
def Yi (a : AAct) (o : CO) : Bool :=
  match o.guard with
  | none => true
  | some (t, want) => match a.tmps.get t with
    | some (.v (.bool b)) => bif b then want else !want
    | _ => false
def YQ (call : Nat → List D → H → O D) : List CO → AAct → H → X
  | [], a, h => .out .normal a h
  | o :: r, a, h =>
    bif Yi a o then
      match o.op with
      | .dfr f => match a.eval f with
        | .func (.func g) x y => YQ call r ({ a with defers := .func (.func g) x y :: a.defers }.put o.dst Zj) h
        | _ => .fail "defer: of what?"
      | op => match Zce E call a op h with
        | .ok d h => YQ call r (a.put o.dst d) h
        | .panic d h => .panic d a h
        | .fail w => .fail w
    else YQ call r (a.put o.dst Zj) h
def Z4d : Value → Value → Bool
  | .slice none a b, .slice none c d => Nat.beq a c && Nat.beq b d
  | .pointer none, .pointer none | .map none, .map none | .nilIface, .nilIface | .nilFunc, .nilFunc => true
  | .bool a, .bool b => bif a then b else !b
  | _, _ => false
mutual
def D.same : D → D → Bool
  | .v a, .v b => Z4d a b
  | .int k a, .int j b => decide (k = j) && decide (a = b)
  | .str a, .str b => Ua a b
  | .ptr a b, .ptr c d => Nat.beq a c && Nat.beq b d
  | .ep xs, .ep ys => YP xs ys
  | .row a b c d, .row e f g h => Nat.beq a e && Nat.beq b f && Nat.beq c g && Nat.beq d h
  | .map a, .map b => Nat.beq a b
  | .sl i n xs, .sl j m ys => Nat.beq i j && Nat.beq n m && YP xs ys
  | .agg xs, .agg ys => YP xs ys
  | .tup xs, .tup ys => YP xs ys
  | .iface t a, .iface u b => Nat.beq t u && D.same a b
  | _, _ => false
def YP : List D → List D → Bool
  | [], [] => true
  | a :: x, b :: y => D.same a b && YP x y
  | _, _ => false
end
inductive Rec where
  | rd (i : Nat) (a : D) (cs : List D)
  | loud (i : Nat) (h : H)
def YR (i : Nat) : List Nat → Bool
  | [] => false
  | j :: r => Nat.beq i j || YR i r
def Xg : COp → Bool
  | .call .. | .st .. | .app .. | .apps .. | .mset .. | .msetV .. | .copy .. | .dfr _ | .rcv | .panic _ => true
  | _ => false
def Zhr : D → D × Nat
  | .row l off n _ => (.ptr l off, n * 1)
  | .sl _ n cs => (.ep cs, n * 1)
  | _ => (.ep [], 0)
def Xz (a : AAct) : COp → Option (D × Nat)
  | .ld1 x => some (a.eval x, 1)
  | .ldN n x => some (a.eval x, n)
  | .b2s x => some (Zhr (a.eval x))
  | _ => none
def XP (inc : List Nat) (x : D) (cs : List D) : List Rec → Bool
  | [] => true
  | .loud i h :: r => (!YR i inc || (match Zk h x cs.length with
    | some ds => YP cs ds
    | none => false)) && XP inc x cs r
  | _ :: r => XP inc x cs r
def Xm (inc : List Nat) (h : H) : List Rec → Bool
  | [] => true
  | .rd i x cs :: r => (!YR i inc || (match Zk h x cs.length with
    | some ds => YP cs ds
    | none => false)) && Xm inc h r
  | _ :: r => Xm inc h r
def later (i : Nat) : List (List Nat) → Bool
  | [] => true
  | inc :: r => !YR i inc && later i r
def Z5x {α : Type} : List α → Bool
  | [] => true
  | _ :: _ => false
def Xd (call : Nat → List D → H → O D) (i : Nat) (recs : List Rec) : List (List Nat) → List CO → AAct → H → X
  | _, [], a, h => .out .normal a h
  | [], _ :: _, _, _ => .fail "draw"
  | inc :: incs, o :: r, a, h =>
    bif Yi a o then
      match Zce E call a o.op h with
      | .ok d h' =>
        match Xz a o.op with
        | some (x, n) => match Zk h x n with
          | some cs => bif XP inc x cs recs then Xd call (i + 1) (.rd i x cs :: recs) incs r (a.put o.dst d) h' else .fail "draw: read"
          | none => .fail "draw: cells"
        | none =>
          bif Xg o.op then
            bif Xm inc h' recs then Xd call (i + 1) (.loud i h :: recs) incs r (a.put o.dst d) h' else .fail "draw: loud"
          else Xd call (i + 1) recs incs r (a.put o.dst d) h'
      | .panic d h => bif Xg o.op && later i incs && (Z5x a.defers || Z5x inc) then .panic d a h else .fail "draw: panic"
      | .fail w => .fail w
    else Xd call (i + 1) recs incs r (a.put o.dst Zj) h
def Z6c (ag : Bool) (size : Nat) : Nat → List D → List D
  | 0, _ => []
  | n + 1, cs => (bif ag then .agg (cs.take size) else (cs.headD Zj)) :: Z6c ag size n (cs.drop size)
def Zv7 (i : Nat) : List D → List (Nat × D)
  | [] => []
  | d :: r => (i, d) :: Zv7 (i + 1) r
def Zk4 (run : AAct → H → X) (mk : Nat → D → AAct) (a : AAct) : List (Nat × D) → H → X
  | [], h => .out .normal a h
  | (i, d) :: r, h => match run (mk i d) h with
    | .out .normal _ h => Zk4 run mk a r h
    | .out e _ h => .out e a h
    | .panic d _ h => .panic d a h
    | .fail w => .fail w
def ZN (call : Nat → List D → H → O D) : Nat → CC → AAct → H → X
  | 0, _, _, _ => .fail "fuel"
  | n + 1, c, a, h =>
    match c with
    | .skip => .out .normal a h
    | .ops l => YQ E call l a h
    | .draw inc l => Xd E call 0 [] inc l a h
    | .seq x y => match ZN call n x a h with
      | .out .normal a h => ZN call n y a h
      | r => r
    | .cond c x y => match a.eval c with
      | .v (.bool b) => bif b then ZN call n x a h else ZN call n y a h
      | _ => .fail "cond"
    | .block id c => match ZN call n c a h with
      | .out (.exit k) a h => bif Nat.beq k id then .out .normal a h else .out (.exit k) a h
      | r => r
    | .loop c => match ZN call n c a h with
      | .out .normal a h => ZN call n (.loop c) a h
      | r => r
    | .exit id => .out (.exit id) a h
    | .ret => .out .ret a h
    | .stop => .fail "refused"
    | .back ag size gs f x y assign body => match a.eval f with
      | .func (.func g) [] [p] => bif YR g gs then
          match Zk h p 1 with
          | some [s] => match Yd h size s with
            | some (k, cs) =>
                Zk4 (fun a h => match ZN call n assign a h with
                  | .out .normal a h => ZN call n body a h
                  | r => r) (fun i d => (a.put (some x) (.int .i64 (.ofNat i))).put (some y) d) a (Zv7 0 (Z6c ag size k cs)).reverse h
            | none => .fail "range: slice"
          | _ => .fail "range: read"
        else .fail "range: of what?"
      | _ => .fail "range"
def WE (a : AAct) (h : H) : List CRes → Option (List D)
  | [] => some []
  | r :: rs => match (match r with
      | .t n => some (a.eval (.t n))
      | .c1 n => match Zk h (a.eval (.t n)) 1 with
        | some [d] => some d
        | _ => none
      | .cN n size => match Zk h (a.eval (.t n)) size with
        | some cs => some (.agg cs)
        | none => none), WE a h rs with
    | some d, some ds => some (d :: ds)
    | _, _ => none
def Z5e : List D → D
  | [d] => d
  | ds => .tup ds
def Zan (fn : CFn) (a : AAct) (h : H) : O D :=
  match WE a h fn.results with
  | some ds => .ok (Z5e ds) h
  | none => .fail "results"
def start (args : List D) (r : Option D) : AAct := { tmps := Tr.ofList args, defers := [], rec? := r, recd := false }
def Z8p (r : Option D) : D :=
  match r with
  | some d => d
  | none => .v .nilIface
def Zfm (call : Call) (n : Nat) (df : D) (r : Option D) (h : H) : Option H :=
  match df with
  | .func (.func g) x y => match E.dfrs g with
    | some p => match ZN E call n p.2 ((start (x ++ y) none).put p.1 (Z8p r)) h with
      | .out e b h => match e with
        | .exit _ => none
        | _ => match b.defers with
          | [] => some h
          | _ => none
      | _ => none
    | none => none
  | _ => none
def U9 (call : Call) (n : Nat) (fn : CFn) (r : Option D) (a : AAct) (h : H) : O D :=
  match a.defers with
  | [] => match r with
    | none => Zan fn a h
    | some d => .panic d h
  | [df] => match Zfm E call n df r h with
    | some h => Zan fn a h
    | none => .fail "in a deferred call"
  | _ => .fail "defers"
def Za1 : Nat → Nat → List D → H → O D
  | 0, _, _, _ => .fail "fuel"
  | n + 1, f, args, h =>
    match E.lib f with
    | some g => g args h
    | none => match E.fns f with
      | none => .fail ("no function " ++ toString f)
      | some fn =>
        match ZN E (Za1 n) n fn.body (start args none) h with
        | .out e a h => match e with
          | .exit _ => .fail "exit"
          | _ => U9 E (Za1 n) n fn none a h
        | .panic d a h => U9 E (Za1 n) n fn (some d) a h
        | .fail w => .fail w
end
end Go.Abs
