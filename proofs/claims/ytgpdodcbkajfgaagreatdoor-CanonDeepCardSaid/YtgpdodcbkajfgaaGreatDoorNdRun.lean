/- A reckoner on plain data: what a call of a program comes to, reckoned on trees, in one order of operations. -/
import GoSem.Dispatch
import GoSem.Step
set_option linter.unusedVariables false
set_option linter.unusedSimpArgs false
namespace Go.Abs
inductive Tr (α : Type) where
  | nil
  | node (l : Tr α) (v : Option α) (r : Tr α)
  deriving Inhabited
def Tr.get {α : Type} : Tr α → Nat → Option α
  | .nil, _ => none
  | .node l v r, k => bif Nat.beq k 0 then v else bif Nat.beq (k % 2) 1 then l.get (k / 2) else r.get (k / 2 - 1)
def Tr.setF {α : Type} : Nat → Tr α → Nat → Option α → Tr α
  | 0, t, _, _ => t
  | f + 1, .nil, k, v => bif Nat.beq k 0 then .node .nil v .nil else bif Nat.beq (k % 2) 1 then .node (Tr.setF f .nil (k / 2) v) none .nil else .node .nil none (Tr.setF f .nil (k / 2 - 1) v)
  | f + 1, .node l u r, k, v => bif Nat.beq k 0 then .node l v r else bif Nat.beq (k % 2) 1 then .node (Tr.setF f l (k / 2) v) u r else .node l u (Tr.setF f r (k / 2 - 1) v)
def Tr.set {α : Type} (t : Tr α) (k : Nat) (v : Option α) : Tr α := Tr.setF (k + 1) t k v
def Tr.ofListFrom {α : Type} : Nat → List α → Tr α → Tr α
  | _, [], t => t
  | i, x :: xs, t => Tr.ofListFrom (i + 1) xs (t.set i (some x))
def Tr.ofList {α : Type} (l : List α) : Tr α := Tr.ofListFrom 0 l .nil
inductive D where
  | v (x : Value)
  | int (k : IntKind) (n : Int)
  | str (l : List Nat)
  | ptr (l off : Nat)
  | ep (cells : List D)
  | sl (id n : Nat) (cells : List D)
  | row (l off len cap : Nat)
  | map (l : Nat)
  | agg (cs : List D)
  | tup (cs : List D)
  | func (fn : Fn) (first captured : List D)
  | iface (t : TypeId) (d : D)
  deriving Inhabited
def Yf (s : ByteArray) : List Nat := s.data.toList.map (·.toNat)
def strV (l : List Nat) : ByteArray := ⟨(l.map UInt8.ofNat).toArray⟩
def D.of0 : Value → D
  | .int k n => .int k n
  | .string s => .str (Yf s)
  | x => .v x
def D.of : Value → D
  | .agg cs => .agg (cs.toList.map .of0)
  | .tuple vs => .tup (vs.toList.map .of0)
  | x => .of0 x
def D.plain1 : D → Option Value
  | .v x => some x
  | .int k n => some (.int k n)
  | .str l => some (.string (strV l))
  | _ => none
def allV : List D → Option (List Value)
  | [] => some []
  | d :: r => match d.plain1, allV r with
    | some x, some l => some (x :: l)
    | _, _ => none
def D.plain0 : D → Option Value
  | .agg cs => match allV cs with
    | some l => some (.agg l.toArray)
    | none => none
  | d => d.plain1
def D.plain : D → Option Value
  | .iface t d => match d.plain0 with
    | some x => some (.iface t x)
    | none => none
  | d => d.plain0
def plains : List D → Option (List Value)
  | [] => some []
  | d :: r => match d.plain, plains r with
    | some x, some l => some (x :: l)
    | _, _ => none
def D.cells : D → List D
  | .agg cs => cs
  | .v (.agg cs) => cs.toList.map .v
  | d => [d]
def D.one : D → Bool
  | .agg _ | .tup _ | .v (.agg _) | .v (.tuple _) => false
  | _ => true
def X5 : List D → Bool
  | [] => true
  | d :: r => d.one && X5 r
def Yr : D := .tup []
inductive AObj where
  | cells (t : TypeId) (cs : List D)
  | map (es : List (D × D))
  | tip (n : Nat) (e : TypeId)
  deriving Inhabited
structure H where
  next : Nat
  mem : Tr AObj
  deriving Inhabited
def H.new (h : H) (o : AObj) : Nat × H := (h.next, ⟨h.next + 1, h.mem.set h.next (some o)⟩)
def H.put (h : H) (l : Nat) (o : AObj) : H := ⟨h.next, h.mem.set l (some o)⟩
inductive O (α : Type) where
  | ok (a : α) (h : H)
  | panic (d : D) (h : H)
  | fail (why : String)
  deriving Inhabited
def O.mk (p : Bool) (d : D) (h : H) : O D :=
  match p with
  | false => .ok d h
  | true => .panic d h
def val? {α : Type} (p : Program) : Sem α → Option α
  | .pure a => some a
  | .program k => val? p (k p)
  | .mark _ k => val? p k
  | _ => none
def Za (h : H) (a : D) (n : Nat) : Option (List D) :=
  match a with
  | .ptr l off => match h.mem.get l with
    | some (.cells _ cs) => let r := (cs.drop off).take n; bif Nat.beq r.length n then some r else none
    | _ => none
  | .ep cs => let r := cs.take n; bif Nat.beq r.length n then some r else none
  | _ => none
def patch (cs : List D) (off : Nat) (xs : List D) : Option (List D) :=
  bif Nat.ble (off + xs.length) cs.length then some (cs.take off ++ xs ++ cs.drop (off + xs.length)) else none
def storeD (h : H) (size : Nat) (a x : D) : Option H :=
  match a with
  | .ptr l off => match h.mem.get l with
    | some (.cells t cs) =>
      bif Nat.beq x.cells.length size && X5 x.cells then
        match patch cs off x.cells with
        | some cs => some (h.put l (.cells t cs))
        | none => none
      else none
    | _ => none
  | _ => none
def Yo (h : H) (size : Nat) : D → Option (Nat × List D)
  | .v (.slice none 0 0) => some (0, [])
  | .sl _ n cs => bif Nat.beq cs.length (n * size) then some (n, cs) else none
  | .row l off len _ => match Za h (.ptr l off) (len * size) with
    | some cs => some (len, cs)
    | none => none
  | _ => none
def Xz (l : List Nat) : List D := l.map fun b => .int .u8 (.ofNat b)
def bytesOf : List D → Option (List Nat)
  | [] => some []
  | .int .u8 (.ofNat n) :: r => match bytesOf r with
    | some l => bif Nat.blt n 256 then some (n :: l) else none
    | none => none
  | _ :: _ => none
def XG (l : List D) : Nat → List D
  | 0 => []
  | n + 1 => l ++ XG l n
def XI (h : H) (e : TypeId) (size bytes : Nat) (s x : D) : O D :=
  match Yo h size x with
  | some (m, ys) =>
    bif Nat.beq m 0 then (match s with
      | .v (.slice none 0 0) | .sl _ _ _ => .ok s h
      | _ => .fail "append: nothing") else
    bif X5 ys && Nat.beq ys.length (m * size) && !Nat.beq size 0 then
    match s with
    | .v (.slice none 0 0) =>
      bif Nat.ble (m * bytes) 140737488355328 && Nat.ble m 140737488355328 then
      let (id, h) := h.new (.tip m e)
      .ok (.sl id m ys) h
      else .fail "append: size"
    | .sl id n cs => match h.mem.get id with
      | some (.tip k u) => bif Nat.beq k n && Nat.beq u e && Nat.beq cs.length (n * size) && Nat.ble ((n + m) * bytes) 140737488355328 && Nat.ble (n + m) 140737488355328 then .ok (.sl id (n + m) (cs ++ ys)) (h.put id (.tip (n + m) e)) else .fail "append: not the tip"
      | _ => .fail "append: no tip"
    | _ => .fail "append: no slice"
    else .fail "append: cells"
  | none => .fail "append: what?"
def appendsD (h : H) (e : TypeId) (s x : D) : O D :=
  match x with
  | .str bs =>
    bif Nat.beq bs.length 0 then (match s with
      | .v (.slice none 0 0) | .sl _ _ _ => .ok s h
      | _ => .fail "append: nothing") else
    match s with
    | .v (.slice none 0 0) =>
      bif Nat.ble bs.length 140737488355328 then
      let (id, h) := h.new (.tip bs.length e)
      .ok (.sl id bs.length (Xz bs)) h
      else .fail "append: size"
    | .sl id n cs => match h.mem.get id with
      | some (.tip k u) => bif Nat.beq k n && Nat.beq u e && Nat.beq cs.length n && Nat.ble (n + bs.length) 140737488355328 then .ok (.sl id (n + bs.length) (cs ++ Xz bs)) (h.put id (.tip (n + bs.length) e)) else .fail "append: not the tip"
      | _ => .fail "append: no tip"
    | _ => .fail "append: no slice"
  | _ => .fail "append: what?"
def hiD (len cap : Nat) : Option D → Option Nat
  | none => some len
  | some (.int _ (.ofNat n)) => bif Nat.ble n cap then some n else none
  | some _ => none
def loD (h : Nat) : Option D → Option (Nat × Nat)
  | none => some (0, h)
  | some (.int _ (.ofNat n)) => bif Nat.ble n h then some (n, h) else none
  | some _ => none
def Xh (len cap : Nat) (lo hi : Option D) : Option (Nat × Nat) :=
  match hiD len cap hi with
  | some h => loD h lo
  | none => none
def sliceD (size : Nat) (x : D) (lo hi : Option D) : Option D :=
  match x with
  | .v (.slice none 0 0) => match Xh 0 0 lo hi with
    | some _ => some x
    | none => none
  | .sl id n cs => match Xh n n lo hi with
    | some (l, k) =>
      bif Nat.beq l 0 && Nat.beq k n then some x else some (.sl 0 (k - l) ((cs.drop (l * size)).take ((k - l) * size)))
    | none => none
  | .row b off len cap => match Xh len cap lo hi with
    | some (l, k) => bif Nat.beq l cap then none else some (.row b (off + l * size) (k - l) (cap - l))
    | none => none
  | _ => none
def sliceArrD (n size : Nat) (x : D) (lo hi : Option D) : Option D :=
  match x with
  | .ptr b off => match Xh n n lo hi with
    | some (l, k) => bif Nat.beq l n then none else some (.row b (off + l * size) (k - l) (n - l))
    | none => none
  | .ep cs => match Xh n n lo hi with
    | some (l, k) => bif Nat.beq l n then none else some (.sl 0 (k - l) ((cs.drop (l * size)).take ((k - l) * size)))
    | none => none
  | _ => none
def inRange (i : D) (n : Nat) : Option Nat :=
  match i with
  | .int _ (.ofNat i) => bif Nat.blt i n then some i else none
  | _ => none
def indexArrD (n size : Nat) (x i : D) : Option D :=
  match inRange i n, x with
  | some i, .ptr l off => some (.ptr l (off + i * size))
  | some i, .ep cs => some (.ep (cs.drop (i * size)))
  | _, _ => none
def indexSlD (size : Nat) (x i : D) : Option D :=
  match x with
  | .sl _ n cs => match inRange i n with
    | some i => match cs.drop (i * size) with
      | [] => none
      | c :: r => some (.ep (c :: r))
    | none => none
  | .row l off n _ => match inRange i n with
    | some i => some (.ptr l (off + i * size))
    | none => none
  | _ => none
def beqL : List Nat → List Nat → Bool
  | [], [] => true
  | a :: x, b :: y => Nat.beq a b && beqL x y
  | _, _ => false
def sameKey1 : D → D → Option Bool
  | .int j a, .int k b => bif decide (j = k) then some (decide (a = b)) else none
  | .str a, .str b => some (beqL a b)
  | .v (.bool a), .v (.bool b) => some (bif a then b else !b)
  | _, _ => none
def findMap (k : D) : List (D × D) → Option (Option D)
  | [] => some none
  | (q, d) :: r => match sameKey1 k q with
    | some true => some (some d)
    | some false => findMap k r
    | none => none
def setMap (k : D) (d : D) : List (D × D) → Option (List (D × D))
  | [] => some [(k, d)]
  | (q, e) :: r => match sameKey1 k q with
    | some true => some ((q, d) :: r)
    | some false => match setMap k d r with
      | some r => some ((q, e) :: r)
      | none => none
    | none => none
def keyOk : Nat → D → Bool
  | 0, .int _ _ => true
  | 1, .str _ => true
  | 2, .v (.bool _) => true
  | _, _ => false
def nilEq (desc : Option TypeDesc) (a b : D) : Option Bool :=
  match desc, a, b with
  | some (.slice _), .v (.slice none _ _), .sl .. | some (.slice _), .v (.slice none _ _), .row .. | some (.slice _), .sl .., .v (.slice none _ _) | some (.slice _), .row .., .v (.slice none _ _) => some false
  | some (.pointer _), .v (.pointer none), .ptr .. | some (.pointer _), .v (.pointer none), .ep .. | some (.pointer _), .ptr .., .v (.pointer none) | some (.pointer _), .ep .., .v (.pointer none) => some false
  | some (.map _ _), .v (.map none), .map _ | some (.map _ _), .map _, .v (.map none) => some false
  | some (.func _ _ _), .v .nilFunc, .func .. | some (.func _ _ _), .func .., .v .nilFunc => some false
  | some (.interface _), .v .nilIface, .iface .. | some (.interface _), .iface .., .v .nilIface => some false
  | _, _, _ => none
inductive Opd where
  | t (n : Nat)
  | d (d : D)
  deriving Inhabited
inductive COp where
  | mv (x : Opd)
  | mvs (x : Opd)
  | pick (c a b : Opd)
  | alloc (t : TypeId) (z : List D)
  | box (t : TypeId) (x : Opd)
  | build (z : List D) (parts : List (Nat × Nat × Opd))
  | buildSl (e : TypeId) (len : Nat) (z : List D) (parts : List (Nat × Nat × Opd))
  | ld1 (a : Opd)
  | ldN (n : Nat) (a : Opd)
  | st (n : Nat) (a x : Opd)
  | nilCheck (x : Opd)
  | bin (op : BinOp) (t : TypeId) (ox oy : Operand) (x y : Opd)
  | un (op : UnOp) (x : Opd)
  | cint (k : IntKind) (x : Opd)
  | s2b (e : TypeId) (x : Opd)
  | b2s (x : Opd)
  | conv (s t : TypeId) (x : Opd)
  | iface (t : TypeId) (x : Opd)
  | mkf (fn : Fn) (first captured : List Opd)
  | mkmap
  | mksl (e : TypeId) (size bytes : Nat) (z : List D) (l c : Opd)
  | slstr (x : Opd) (lo hi : Option Opd)
  | slsl (size : Nat) (x : Opd) (lo hi : Option Opd)
  | slarr (n size : Nat) (x : Opd) (lo hi : Option Opd)
  | fa (off : Nat) (x : Opd)
  | fld (ag : Bool) (off n : Nat) (x : Opd)
  | ixa (n size : Nat) (x i : Opd)
  | ixs (size : Nat) (x i : Opd)
  | idxa (ag : Bool) (n size : Nat) (x i : Opd)
  | idxs (x i : Opd)
  | apps (e : TypeId) (s x : Opd)
  | lookV (kt : TypeId) (z : D) (x k : Opd) (ok : Bool)
  | msetV (kt : TypeId) (m k x : Opd)
  | look (kd : Nat) (z : D) (x k : Opd) (ok : Bool)
  | mset (kd : Nat) (m k x : Opd)
  | tas (t : TypeId) (z : D) (x : Opd) (ok : Bool)
  | ext (i : Nat) (x : Opd)
  | call (f : Opd) (args : List Opd)
  | app (e : TypeId) (size bytes : Nat) (s x : Opd)
  | lens (x : Opd)
  | len (x : Opd)
  | lenm (x : Opd)
  | copy (size : Nat) (d s : Opd)
  | bi (b : Builtin) (argTypes : Array TypeId) (type : TypeId) (consts : Array Bool) (args : List Opd)
  | panic (x : Opd)
  | dfr (f : Opd)
  | rcv
  deriving Inhabited
structure CO where
  dst : Option Nat
  guard : Option (Nat × Bool)
  op : COp
  deriving Inhabited
inductive CC where
  | skip
  | ops (l : List CO)
  | draw (inc : List (List Nat)) (l : List CO)
  | seq (a b : CC)
  | cond (c : Opd) (a b : CC)
  | block (id : Nat) (c : CC)
  | loop (c : CC)
  | exit (id : Nat)
  | ret
  | stop
  | back (ag : Bool) (size : Nat) (gs : List Nat) (f : Opd) (x y : Nat) (assign body : CC)
  deriving Inhabited
inductive CRes where
  | t (n : Nat)
  | c1 (n : Nat)
  | cN (n size : Nat)
  deriving Inhabited
structure CFn where
  results : List CRes
  body : CC
  deriving Inhabited
structure Env where
  P : Program
  fns : Nat → Option CFn
  lib : Nat → Option (List D → H → O D)
  dfrs : Nat → Option (Option Nat × CC)
variable (E : Env)
structure AAct where
  tmps : Tr D
  defers : List D
  rec? : Option D
  recd : Bool
  deriving Inhabited
def AAct.eval (a : AAct) : Opd → D
  | .t n => match a.tmps.get n with
    | some d => d
    | none => Yr
  | .d d => d
def AAct.evals (a : AAct) : List Opd → List D
  | [] => []
  | x :: r => a.eval x :: a.evals r
def AAct.put (a : AAct) (dst : Option Nat) (d : D) : AAct :=
  match dst with
  | some t => { a with tmps := a.tmps.set t (some d) }
  | none => a
def ok? (o : Option D) (h : H) (why : String) : O D :=
  match o with
  | some d => .ok d h
  | none => .fail why
def fillD (a : AAct) (cells : List D) : List (Nat × Nat × Opd) → Option (List D)
  | [] => some cells
  | (off, size, x) :: r =>
    let d := a.eval x
    bif Nat.beq d.cells.length size then
      match patch cells off d.cells with
      | some cells => fillD a cells r
      | none => none
    else none
def partD (ag : Bool) (n : Nat) (cs : List D) (off : Nat) : Option D :=
  bif ag then
    let r := (cs.drop off).take n
    bif Nat.beq r.length n then some (.agg r) else none
  else match cs.drop off with
    | d :: _ => some d
    | [] => none
def isOk (i : IntKind) (n : Int) : Bool :=
  match i with
  | .i8 => decide (-128 ≤ n) && decide (n ≤ 127)
  | .i16 => decide (-32768 ≤ n) && decide (n ≤ 32767)
  | .i32 => decide (-2147483648 ≤ n) && decide (n ≤ 2147483647)
  | .i64 => decide (-9223372036854775808 ≤ n) && decide (n ≤ 9223372036854775807)
  | .u8 => decide (0 ≤ n) && decide (n ≤ 255)
  | .u16 => decide (0 ≤ n) && decide (n ≤ 65535)
  | .u32 => decide (0 ≤ n) && decide (n ≤ 4294967295)
  | .u64 => decide (0 ≤ n) && decide (n ≤ 18446744073709551615)
def wrapF (k : IntKind) (n : Int) : Int := bif isOk k n then n else k.wrap n
def quickBin (op : BinOp) (x y : D) : Option D :=
  match x, y with
  | .int k a, .int k' b =>
    match op with
    | .add => bif decide (k = k') then some (.int k (wrapF k (a + b))) else none
    | .sub => bif decide (k = k') then some (.int k (wrapF k (a - b))) else none
    | .mul => bif decide (k = k') then some (.int k (wrapF k (a * b))) else none
    | .eql => bif decide (k = k') then some (.v (.bool (decide (a = b)))) else none
    | .neq => bif decide (k = k') then some (.v (.bool (!decide (a = b)))) else none
    | .lss => bif decide (k = k') then some (.v (.bool (decide (a < b)))) else none
    | .leq => bif decide (k = k') then some (.v (.bool (decide (a ≤ b)))) else none
    | .gtr => bif decide (k = k') then some (.v (.bool (decide (b < a)))) else none
    | .geq => bif decide (k = k') then some (.v (.bool (decide (b ≤ a)))) else none
    | _ => none
  | .str a, .str b =>
    match op with
    | .eql => some (.v (.bool (beqL a b)))
    | .neq => some (.v (.bool (!beqL a b)))
    | .add => bif Nat.ble (a.length + b.length) 140737488355328 then some (.str (a ++ b)) else none
    | _ => none
  | _, _ => none
def binD (op : BinOp) (t : TypeId) (ox oy : Operand) (x y : D) : Option D :=
  match quickBin op x y with
  | some d => some d
  | none => match x.plain, y.plain with
    | some a, some b => match val? E.P (do eqGuard op t ox oy a b; binOp op t a b) with
      | some v => some (.of v)
      | none => none
    | _, _ => match op, nilEq (E.P.underlying t) x y with
      | .eql, some b => some (.v (.bool b))
      | .neq, some b => some (.v (.bool !b))
      | _, _ => none
def callD (call : Nat → List D → H → O D) (f : D) (args : List D) (h : H) : O D :=
  match f with
  | .v (.func (.func f) first captured) => call f (first.toList.map .of ++ args ++ captured.toList.map .of) h
  | .func (.func f) first captured => call f (first ++ args ++ captured) h
  | _ => .fail "call: what?"
abbrev Call := Nat → List D → H → O D
def r_mv (x : Opd) (E : Env) (call : Call) (a : AAct) (h : H) : O D :=
  .ok (a.eval x) h
def r_mvs (x : Opd) (E : Env) (call : Call) (a : AAct) (h : H) : O D :=
  match a.eval x with
  | .str l => .ok (.str l) h
  | _ => .fail "string"
def r_pick (c : Opd) (x : Opd) (y : Opd) (E : Env) (call : Call) (a : AAct) (h : H) : O D :=
  match a.eval c with
    | .v (.bool b) => .ok (bif b then a.eval x else a.eval y) h
    | _ => .fail "pick"
def r_alloc (t : TypeId) (z : List D) (E : Env) (call : Call) (a : AAct) (h : H) : O D :=
  let (l, h) := h.new (.cells t z); .ok (.ptr l 0) h
def r_box (t : TypeId) (x : Opd) (E : Env) (call : Call) (a : AAct) (h : H) : O D :=
  let (l, h) := h.new (.cells t (a.eval x).cells); .ok (.ptr l 0) h
def r_build (z : List D) (parts : List (Nat × Nat × Opd)) (E : Env) (call : Call) (a : AAct) (h : H) : O D :=
  match fillD a z parts with
    | some cs => .ok (.agg cs) h
    | none => .fail "build"
def XW (e : TypeId) (len : Nat) (z : List D) (parts : List (Nat × Nat × Opd)) (E : Env) (call : Call) (a : AAct) (h : H) : O D :=
  match fillD a z parts with
    | some cs => let (id, h) := h.new (.tip len e); .ok (.sl id len cs) h
    | none => .fail "buildSl"
def r_ld1 (x : Opd) (E : Env) (call : Call) (a : AAct) (h : H) : O D :=
  match Za h (a.eval x) 1 with
    | some [d] => .ok d h
    | _ => .fail "load"
def r_ldN (n : Nat) (x : Opd) (E : Env) (call : Call) (a : AAct) (h : H) : O D :=
  match Za h (a.eval x) n with
    | some cs => .ok (.agg cs) h
    | none => .fail "loadN"
def r_st (n : Nat) (x : Opd) (y : Opd) (E : Env) (call : Call) (a : AAct) (h : H) : O D :=
  match storeD h n (a.eval x) (a.eval y) with
    | some h => .ok Yr h
    | none => .fail "store"
def ZJ (x : Opd) (E : Env) (call : Call) (a : AAct) (h : H) : O D :=
  match a.eval x with
    | .ptr l off => .ok (.ptr l off) h
    | .ep cs => .ok (.ep cs) h
    | .func (.func f) x y => .ok (.func (.func f) x y) h
    | .v (.func (.func f) x y) => .ok (.v (.func (.func f) x y)) h
    | _ => .fail "nil"
def r_bin (op : BinOp) (t : TypeId) (ox : Operand) (oy : Operand) (x : Opd) (y : Opd) (E : Env) (call : Call) (a : AAct) (h : H) : O D :=
  ok? (binD E op t ox oy (a.eval x) (a.eval y)) h "bin"
def r_un (op : UnOp) (x : Opd) (E : Env) (call : Call) (a : AAct) (h : H) : O D :=
  match op, a.eval x with
    | .not, .v (.bool b) => .ok (.v (.bool !b)) h
    | op, d => match d.plain with
      | some u => match val? E.P (Op.unary op u) with
        | some v => .ok (.of v) h
        | none => .fail "un"
      | none => .fail "un"
def r_cint (k : IntKind) (x : Opd) (E : Env) (call : Call) (a : AAct) (h : H) : O D :=
  match a.eval x with
    | .int _ n => .ok (.int k (wrapF k n)) h
    | _ => .fail "cint"
def r_s2b (e : TypeId) (x : Opd) (E : Env) (call : Call) (a : AAct) (h : H) : O D :=
  match a.eval x with
    | .str l => .ok (.sl 0 l.length (Xz l)) h
    | _ => .fail "s2b"
def r_b2s (x : Opd) (E : Env) (call : Call) (a : AAct) (h : H) : O D :=
  match Yo h 1 (a.eval x) with
    | some (_, cs) => match bytesOf cs with
      | some l => .ok (.str l) h
      | none => .fail "b2s"
    | none => .fail "b2s"
def r_conv (s : TypeId) (t : TypeId) (x : Opd) (E : Env) (call : Call) (a : AAct) (h : H) : O D :=
  match (a.eval x).plain with
    | some u => match val? E.P (convert s t u) with
      | some v => .ok (.of v) h
      | none => .fail "conv"
    | none => .fail "conv"
def YX (t : TypeId) (x : Opd) (E : Env) (call : Call) (a : AAct) (h : H) : O D :=
  .ok (.iface t (a.eval x)) h
def r_mkf (fn : Fn) (x : List Opd) (y : List Opd) (E : Env) (call : Call) (a : AAct) (h : H) : O D :=
  .ok (.func fn (a.evals x) (a.evals y)) h
def r_mkmap  (E : Env) (call : Call) (a : AAct) (h : H) : O D :=
  let (l, h) := h.new (.map []); .ok (.map l) h
def XK (e : TypeId) (size : Nat) (bytes : Nat) (z : List D) (l : Opd) (c : Opd) (E : Env) (call : Call) (a : AAct) (h : H) : O D :=
  match a.eval l, a.eval c with
    | .int _ (.ofNat n), .int _ (.ofNat m) =>
      bif Nat.ble m 140737488355328 && Nat.ble (m * bytes) 140737488355328 then
        bif Nat.beq n m then let (l, h) := h.new (.cells e (XG z n)); .ok (.row l 0 n n) h
        else bif Nat.beq n 0 then let (id, h) := h.new (.tip 0 e); .ok (.sl id 0 []) h
        else .fail "makeSlice"
      else .fail "makeSlice"
    | _, _ => .fail "makeSlice"
def r_slstr (x : Opd) (lo : Option Opd) (hi : Option Opd) (E : Env) (call : Call) (a : AAct) (h : H) : O D :=
  match a.eval x with
    | .str s => match Xh s.length s.length (lo.map a.eval) (hi.map a.eval) with
      | some (l, k) => .ok (.str ((s.drop l).take (k - l))) h
      | none => .fail "slice: string"
    | _ => .fail "slice: string"
def r_slsl (size : Nat) (x : Opd) (lo : Option Opd) (hi : Option Opd) (E : Env) (call : Call) (a : AAct) (h : H) : O D :=
  ok? (sliceD size (a.eval x) (lo.map a.eval) (hi.map a.eval)) h "slice"
def Wa (n : Nat) (size : Nat) (x : Opd) (lo : Option Opd) (hi : Option Opd) (E : Env) (call : Call) (a : AAct) (h : H) : O D :=
  ok? (sliceArrD n size (a.eval x) (lo.map a.eval) (hi.map a.eval)) h "slice: array"
def YC (off : Nat) (x : Opd) (E : Env) (call : Call) (a : AAct) (h : H) : O D :=
  match a.eval x with
    | .ptr l o => .ok (.ptr l (o + off)) h
    | .ep cs => .ok (.ep (cs.drop off)) h
    | _ => .fail "fieldAddr"
def Xf (ag : Bool) (off : Nat) (n : Nat) (x : Opd) (E : Env) (call : Call) (a : AAct) (h : H) : O D :=
  match a.eval x with
    | .agg cs => ok? (partD ag n cs off) h "field"
    | _ => .fail "field"
def r_ixa (n : Nat) (size : Nat) (x : Opd) (i : Opd) (E : Env) (call : Call) (a : AAct) (h : H) : O D :=
  ok? (indexArrD n size (a.eval x) (a.eval i)) h "index: array"
def r_ixs (size : Nat) (x : Opd) (i : Opd) (E : Env) (call : Call) (a : AAct) (h : H) : O D :=
  ok? (indexSlD size (a.eval x) (a.eval i)) h "index: slice"
def r_idxa (ag : Bool) (n : Nat) (size : Nat) (x : Opd) (i : Opd) (E : Env) (call : Call) (a : AAct) (h : H) : O D :=
  match a.eval x, inRange (a.eval i) n with
    | .agg cs, some i => ok? (partD ag size cs (i * size)) h "index: value"
    | _, _ => .fail "index: value"
def XD (x : Opd) (i : Opd) (E : Env) (call : Call) (a : AAct) (h : H) : O D :=
  match a.eval x, a.eval i with
    | .str s, .int _ (.ofNat i) => match s.drop i with
      | b :: _ => .ok (.int .u8 (.ofNat b)) h
      | [] => .fail "index: string"
    | _, _ => .fail "index: string"
def findV (P : Program) (kt : TypeId) (kv : Value) : List (D × D) → Option (Option D)
  | [] => some none
  | (q, d) :: r => match q.plain with
    | some qv => match val? P (Op.equal kt kv qv) with
      | some true => some (some d)
      | some false => findV P kt kv r
      | none => none
    | none => none
def setV (P : Program) (kt : TypeId) (k : D) (kv : Value) (d : D) : List (D × D) → Option (List (D × D))
  | [] => some [(k, d)]
  | (q, e) :: r => match q.plain with
    | some qv => match val? P (Op.equal kt kv qv) with
      | some true => bif Instr.sameBits 10000 qv kv then some ((k, d) :: r) else none
      | some false => match setV P kt k kv d r with
        | some r => some ((q, e) :: r)
        | none => none
      | none => none
    | none => none
def mapAt (h : H) : D → Option (List (D × D))
  | .v (.map none) => some []
  | .map l => match h.mem.get l with
    | some (.map es) => some es
    | _ => none
  | _ => none
def Wc (kt : TypeId) (z : D) (x : Opd) (k : Opd) (ok : Bool) (E : Env) (call : Call) (a : AAct) (h : H) : O D :=
  match (a.eval k).plain, mapAt h (a.eval x) with
  | some kv, some es => match val? E.P (Instr.checkKey es.isEmpty 10000 kt kv), findV E.P kt kv es with
    | some _, some (some d) => .ok (bif ok then .tup [d, .v (.bool true)] else d) h
    | some _, some none => .ok (bif ok then .tup [z, .v (.bool false)] else z) h
    | _, _ => .fail "lookup: struct key"
  | _, _ => .fail "lookup: struct"
def r_msetV (kt : TypeId) (m : Opd) (k : Opd) (x : Opd) (E : Env) (call : Call) (a : AAct) (h : H) : O D :=
  match a.eval m, (a.eval k).plain with
  | .map l, some kv => match h.mem.get l with
    | some (.map es) => match val? E.P (Instr.checkKey false 10000 kt kv), setV E.P kt (a.eval k) kv (a.eval x) es with
      | some _, some es => .ok Yr (h.put l (.map es))
      | _, _ => .fail "mapUpdate: struct key"
    | _ => .fail "mapUpdate"
  | _, _ => .fail "mapUpdate"
def r_look (flat : Nat) (z : D) (x : Opd) (k : Opd) (ok : Bool) (E : Env) (call : Call) (a : AAct) (h : H) : O D :=
  bif keyOk flat (a.eval k) then match (match a.eval x with
        | .v (.map none) => some []
        | .map l => match h.mem.get l with
          | some (.map es) => some es
          | _ => none
        | _ => none) with
      | some es => match findMap (a.eval k) es with
        | some (some d) => .ok (bif ok then .tup [d, .v (.bool true)] else d) h
        | some none => .ok (bif ok then .tup [z, .v (.bool false)] else z) h
        | none => .fail "lookup: key"
      | none => .fail "lookup"
    else .fail "lookup"
def r_mset (flat : Nat) (m : Opd) (k : Opd) (x : Opd) (E : Env) (call : Call) (a : AAct) (h : H) : O D :=
  match a.eval m with
    | .map l => bif keyOk flat (a.eval k) then match h.mem.get l with
      | some (.map es) => match setMap (a.eval k) (a.eval x) es with
        | some es => .ok Yr (h.put l (.map es))
        | none => .fail "mapUpdate: key"
      | _ => .fail "mapUpdate"
      else .fail "mapUpdate"
    | _ => .fail "mapUpdate"
def r_tas (t : TypeId) (z : D) (x : Opd) (ok : Bool) (E : Env) (call : Call) (a : AAct) (h : H) : O D :=
  match a.eval x with
    | .v .nilIface => bif ok then .ok (.tup [z, .v (.bool false)]) h else .fail "typeAssert"
    | .iface u d => bif Nat.beq u t then .ok (bif ok then .tup [d, .v (.bool true)] else d) h else
        bif ok then .ok (.tup [z, .v (.bool false)]) h else .fail "typeAssert"
    | _ => .fail "typeAssert"
def r_ext (i : Nat) (x : Opd) (E : Env) (call : Call) (a : AAct) (h : H) : O D :=
  match a.eval x with
    | .tup ds => ok? (ds[i]?) h "extract"
    | _ => .fail "extract"
def r_call (f : Opd) (args : List Opd) (E : Env) (call : Call) (a : AAct) (h : H) : O D :=
  callD call (a.eval f) (a.evals args) h
def YY (e : TypeId) (size : Nat) (bytes : Nat) (s : Opd) (x : Opd) (E : Env) (call : Call) (a : AAct) (h : H) : O D :=
  XI h e size bytes (a.eval s) (a.eval x)
def Xo (x : Opd) (E : Env) (call : Call) (a : AAct) (h : H) : O D :=
  match a.eval x with
  | .str l => .ok (.int .i64 (.ofNat l.length)) h
  | _ => .fail "len"
def Xl (x : Opd) (E : Env) (call : Call) (a : AAct) (h : H) : O D :=
  match a.eval x with
  | .sl _ n _ => .ok (.int .i64 (.ofNat n)) h
  | .row _ _ n _ => .ok (.int .i64 (.ofNat n)) h
  | .v (.slice none 0 0) => .ok (.int .i64 (.ofNat 0)) h
  | _ => .fail "len"
def r_lenm (x : Opd) (E : Env) (call : Call) (a : AAct) (h : H) : O D :=
  match a.eval x with
    | .map l => match h.mem.get l with
      | some (.map es) => .ok (.int .i64 (.ofNat es.length)) h
      | _ => .fail "len"
    | _ => .fail "len"
def r_copy (size : Nat) (d : Opd) (s : Opd) (E : Env) (call : Call) (a : AAct) (h : H) : O D :=
  match a.eval d, Yo h size (a.eval s) with
    | .row l off n _, some (m, ys) => match h.mem.get l with
      | some (.cells t cs) => bif X5 ys && Nat.beq ys.length (m * size) then
          match patch cs off (ys.take (min m n * size)) with
          | some cs => .ok (.int .i64 (.ofNat (min m n))) (h.put l (.cells t cs))
          | none => .fail "copy"
        else .fail "copy"
      | _ => .fail "copy"
    | _, _ => .fail "copy"
def r_bi (b : Builtin) (ts : Array TypeId) (t : TypeId) (cs : Array Bool) (args : List Opd) (E : Env) (call : Call) (a : AAct) (h : H) : O D :=
  match plains (a.evals args) with
    | some vs => match val? E.P (builtin b ts t cs vs.toArray) with
      | some (.value v) => .ok (.of v) h
      | _ => .fail "builtin"
    | none => .fail "builtin: args"
def r_apps (e : TypeId) (s : Opd) (x : Opd) (E : Env) (call : Call) (a : AAct) (h : H) : O D :=
  appendsD h e (a.eval s) (a.eval x)
def Wb (x : Opd) (E : Env) (call : Call) (a : AAct) (h : H) : O D :=
  match a.eval x with
    | .iface t d => .panic (.iface t d) h
    | _ => .fail "panic"
def r_dfr (q0 : Opd) (E : Env) (call : Call) (a : AAct) (h : H) : O D :=
  .fail "defer"
def r_rcv  (E : Env) (call : Call) (a : AAct) (h : H) : O D :=
  .fail "recover"
def den : COp → Env → Call → AAct → H → O D
  | .mv q0 => r_mv q0
  | .mvs q0 => r_mvs q0
  | .pick q0 q1 q2 => r_pick q0 q1 q2
  | .alloc q0 q1 => r_alloc q0 q1
  | .box q0 q1 => r_box q0 q1
  | .build q0 q1 => r_build q0 q1
  | .buildSl q0 q1 q2 q3 => XW q0 q1 q2 q3
  | .ld1 q0 => r_ld1 q0
  | .ldN q0 q1 => r_ldN q0 q1
  | .st q0 q1 q2 => r_st q0 q1 q2
  | .nilCheck q0 => ZJ q0
  | .bin q0 q1 q2 q3 q4 q5 => r_bin q0 q1 q2 q3 q4 q5
  | .un q0 q1 => r_un q0 q1
  | .cint q0 q1 => r_cint q0 q1
  | .s2b q0 q1 => r_s2b q0 q1
  | .b2s q0 => r_b2s q0
  | .conv q0 q1 q2 => r_conv q0 q1 q2
  | .iface q0 q1 => YX q0 q1
  | .mkf q0 q1 q2 => r_mkf q0 q1 q2
  | .mkmap => r_mkmap
  | .mksl q0 q1 q2 q3 q4 q5 => XK q0 q1 q2 q3 q4 q5
  | .slstr q0 q1 q2 => r_slstr q0 q1 q2
  | .slsl q0 q1 q2 q3 => r_slsl q0 q1 q2 q3
  | .slarr q0 q1 q2 q3 q4 => Wa q0 q1 q2 q3 q4
  | .fa q0 q1 => YC q0 q1
  | .fld q0 q1 q2 q3 => Xf q0 q1 q2 q3
  | .ixa q0 q1 q2 q3 => r_ixa q0 q1 q2 q3
  | .ixs q0 q1 q2 => r_ixs q0 q1 q2
  | .idxa q0 q1 q2 q3 q4 => r_idxa q0 q1 q2 q3 q4
  | .idxs q0 q1 => XD q0 q1
  | .apps q0 q1 q2 => r_apps q0 q1 q2
  | .lookV q0 q1 q2 q3 q4 => Wc q0 q1 q2 q3 q4
  | .msetV q0 q1 q2 q3 => r_msetV q0 q1 q2 q3
  | .look q0 q1 q2 q3 q4 => r_look q0 q1 q2 q3 q4
  | .mset q0 q1 q2 q3 => r_mset q0 q1 q2 q3
  | .tas q0 q1 q2 q3 => r_tas q0 q1 q2 q3
  | .ext q0 q1 => r_ext q0 q1
  | .call q0 q1 => r_call q0 q1
  | .app q0 q1 q2 q3 q4 => YY q0 q1 q2 q3 q4
  | .lens q0 => Xo q0
  | .len q0 => Xl q0
  | .lenm q0 => r_lenm q0
  | .copy q0 q1 q2 => r_copy q0 q1 q2
  | .bi q0 q1 q2 q3 q4 => r_bi q0 q1 q2 q3 q4
  | .panic q0 => Wb q0
  | .dfr q0 => r_dfr q0
  | .rcv => r_rcv
def crun (call : Call) (a : AAct) (o : COp) (h : H) : O D := den o E call a h
inductive AExit where
  | normal
  | exit (id : Nat)
  | ret
  deriving Inhabited
inductive X where
  | out (e : AExit) (a : AAct) (h : H)
  | panic (d : D) (a : AAct) (h : H)
  | fail (why : String)
  deriving Inhabited
inductive AEnd where
  | exit (e : AExit)
  | panic (d : D)
def X.mk (r : AEnd) (a : AAct) (h : H) : X :=
  match r with
  | .exit e => .out e a h
  | .panic d => .panic d a h
def ZY (a : AAct) (o : CO) : Bool :=
  match o.guard with
  | none => true
  | some (t, want) => match a.tmps.get t with
    | some (.v (.bool b)) => bif b then want else !want
    | _ => false
def Yj (call : Nat → List D → H → O D) : List CO → AAct → H → X
  | [], a, h => .out .normal a h
  | o :: r, a, h =>
    bif ZY a o then
      match o.op with
      | .dfr f => match a.eval f with
        | .func (.func g) x y => Yj call r ({ a with defers := .func (.func g) x y :: a.defers }.put o.dst Yr) h
        | _ => .fail "defer: of what?"
      | op => match crun E call a op h with
        | .ok d h => Yj call r (a.put o.dst d) h
        | .panic d h => .panic d a h
        | .fail w => .fail w
    else Yj call r (a.put o.dst Yr) h
def sameV : Value → Value → Bool
  | .slice none a b, .slice none c d => Nat.beq a c && Nat.beq b d
  | .pointer none, .pointer none | .map none, .map none | .nilIface, .nilIface | .nilFunc, .nilFunc => true
  | .bool a, .bool b => bif a then b else !b
  | _, _ => false
mutual
def D.same : D → D → Bool
  | .v a, .v b => sameV a b
  | .int k a, .int j b => decide (k = j) && decide (a = b)
  | .str a, .str b => beqL a b
  | .ptr a b, .ptr c d => Nat.beq a c && Nat.beq b d
  | .ep xs, .ep ys => YQ xs ys
  | .row a b c d, .row e f g h => Nat.beq a e && Nat.beq b f && Nat.beq c g && Nat.beq d h
  | .map a, .map b => Nat.beq a b
  | .sl i n xs, .sl j m ys => Nat.beq i j && Nat.beq n m && YQ xs ys
  | .agg xs, .agg ys => YQ xs ys
  | .tup xs, .tup ys => YQ xs ys
  | .iface t a, .iface u b => Nat.beq t u && D.same a b
  | _, _ => false
def YQ : List D → List D → Bool
  | [], [] => true
  | a :: x, b :: y => D.same a b && YQ x y
  | _, _ => false
end
inductive Rec where
  | rd (i : Nat) (a : D) (cs : List D)
  | loud (i : Nat) (h : H)
def YF (i : Nat) : List Nat → Bool
  | [] => false
  | j :: r => Nat.beq i j || YF i r
def YJ : COp → Bool
  | .call .. | .st .. | .app .. | .apps .. | .mset .. | .msetV .. | .copy .. | .dfr _ | .rcv | .panic _ => true
  | _ => false
def rowOf : D → D × Nat
  | .row l off n _ => (.ptr l off, n * 1)
  | .sl _ n cs => (.ep cs, n * 1)
  | _ => (.ep [], 0)
def YW (a : AAct) : COp → Option (D × Nat)
  | .ld1 x => some (a.eval x, 1)
  | .ldN n x => some (a.eval x, n)
  | .b2s x => some (rowOf (a.eval x))
  | _ => none
def X9 (inc : List Nat) (x : D) (cs : List D) : List Rec → Bool
  | [] => true
  | .loud i h :: r => (!YF i inc || (match Za h x cs.length with
    | some ds => YQ cs ds
    | none => false)) && X9 inc x cs r
  | _ :: r => X9 inc x cs r
def YL (inc : List Nat) (h : H) : List Rec → Bool
  | [] => true
  | .rd i x cs :: r => (!YF i inc || (match Za h x cs.length with
    | some ds => YQ cs ds
    | none => false)) && YL inc h r
  | _ :: r => YL inc h r
def later (i : Nat) : List (List Nat) → Bool
  | [] => true
  | inc :: r => !YF i inc && later i r
def isNil {α : Type} : List α → Bool
  | [] => true
  | _ :: _ => false
def YI (call : Nat → List D → H → O D) (i : Nat) (recs : List Rec) : List (List Nat) → List CO → AAct → H → X
  | _, [], a, h => .out .normal a h
  | [], _ :: _, _, _ => .fail "draw"
  | inc :: Yg, o :: r, a, h =>
    bif ZY a o then
      match crun E call a o.op h with
      | .ok d h' =>
        match YW a o.op with
        | some (x, n) => match Za h x n with
          | some cs => bif X9 inc x cs recs then YI call (i + 1) (.rd i x cs :: recs) Yg r (a.put o.dst d) h' else .fail "draw: read"
          | none => .fail "draw: cells"
        | none =>
          bif YJ o.op then
            bif YL inc h' recs then YI call (i + 1) (.loud i h :: recs) Yg r (a.put o.dst d) h' else .fail "draw: loud"
          else YI call (i + 1) recs Yg r (a.put o.dst d) h'
      | .panic d h => bif YJ o.op && later i Yg && (isNil a.defers || isNil inc) then .panic d a h else .fail "draw: panic"
      | .fail w => .fail w
    else YI call (i + 1) recs Yg r (a.put o.dst Yr) h
def elemsD (ag : Bool) (size : Nat) : Nat → List D → List D
  | 0, _ => []
  | n + 1, cs => (bif ag then .agg (cs.take size) else (cs.headD Yr)) :: elemsD ag size n (cs.drop size)
def numbered (i : Nat) : List D → List (Nat × D)
  | [] => []
  | d :: r => (i, d) :: numbered (i + 1) r
def aback (run : AAct → H → X) (mk : Nat → D → AAct) (a : AAct) : List (Nat × D) → H → X
  | [], h => .out .normal a h
  | (i, d) :: r, h => match run (mk i d) h with
    | .out .normal _ h => aback run mk a r h
    | .out e _ h => .out e a h
    | .panic d _ h => .panic d a h
    | .fail w => .fail w
def ZI (call : Nat → List D → H → O D) : Nat → CC → AAct → H → X
  | 0, _, _, _ => .fail "fuel"
  | n + 1, c, a, h =>
    match c with
    | .skip => .out .normal a h
    | .ops l => Yj E call l a h
    | .draw inc l => YI E call 0 [] inc l a h
    | .seq x y => match ZI call n x a h with
      | .out .normal a h => ZI call n y a h
      | r => r
    | .cond c x y => match a.eval c with
      | .v (.bool b) => bif b then ZI call n x a h else ZI call n y a h
      | _ => .fail "cond"
    | .block id c => match ZI call n c a h with
      | .out (.exit k) a h => bif Nat.beq k id then .out .normal a h else .out (.exit k) a h
      | r => r
    | .loop c => match ZI call n c a h with
      | .out .normal a h => ZI call n (.loop c) a h
      | r => r
    | .exit id => .out (.exit id) a h
    | .ret => .out .ret a h
    | .stop => .fail "refused"
    | .back ag size gs f x y assign body => match a.eval f with
      | .func (.func g) [] [p] => bif YF g gs then
          match Za h p 1 with
          | some [s] => match Yo h size s with
            | some (k, cs) =>
                aback (fun a h => match ZI call n assign a h with
                  | .out .normal a h => ZI call n body a h
                  | r => r) (fun i d => (a.put (some x) (.int .i64 (.ofNat i))).put (some y) d) a (numbered 0 (elemsD ag size k cs)).reverse h
            | none => .fail "range: slice"
          | _ => .fail "range: read"
        else .fail "range: of what?"
      | _ => .fail "range"
def X2 (a : AAct) (h : H) : List CRes → Option (List D)
  | [] => some []
  | r :: rs => match (match r with
      | .t n => some (a.eval (.t n))
      | .c1 n => match Za h (a.eval (.t n)) 1 with
        | some [d] => some d
        | _ => none
      | .cN n size => match Za h (a.eval (.t n)) size with
        | some cs => some (.agg cs)
        | none => none), X2 a h rs with
    | some d, some ds => some (d :: ds)
    | _, _ => none
def oneOf : List D → D
  | [d] => d
  | ds => .tup ds
def YR (fn : CFn) (a : AAct) (h : H) : O D :=
  match X2 a h fn.results with
  | some ds => .ok (oneOf ds) h
  | none => .fail "results"
def start (args : List D) (r : Option D) : AAct := { tmps := Tr.ofList args, defers := [], rec? := r, recd := false }
def recD (r : Option D) : D :=
  match r with
  | some d => d
  | none => .v .nilIface
def cdefer (call : Call) (n : Nat) (df : D) (r : Option D) (h : H) : Option H :=
  match df with
  | .func (.func g) x y => match E.dfrs g with
    | some p => match ZI E call n p.2 ((start (x ++ y) none).put p.1 (recD r)) h with
      | .out e b h => match e with
        | .exit _ => none
        | _ => match b.defers with
          | [] => some h
          | _ => none
      | _ => none
    | none => none
  | _ => none
def Xr (call : Call) (n : Nat) (fn : CFn) (r : Option D) (a : AAct) (h : H) : O D :=
  match a.defers with
  | [] => match r with
    | none => YR fn a h
    | some d => .panic d h
  | [df] => match cdefer E call n df r h with
    | some h => YR fn a h
    | none => .fail "in a deferred call"
  | _ => .fail "defers"
def ccall : Nat → Nat → List D → H → O D
  | 0, _, _, _ => .fail "fuel"
  | n + 1, f, args, h =>
    match E.lib f with
    | some g => g args h
    | none => match E.fns f with
      | none => .fail ("no function " ++ toString f)
      | some fn =>
        match ZI E (ccall n) n fn.body (start args none) h with
        | .out e a h => match e with
          | .exit _ => .fail "exit"
          | _ => Xr E (ccall n) n fn none a h
        | .panic d a h => Xr E (ccall n) n fn (some d) a h
        | .fail w => .fail w
end Go.Abs
