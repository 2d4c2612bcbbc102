/- A reckoner on plain data: what a call of a program comes to, reckoned on trees, in one order of operations. -/
import GoSem.Dispatch
import GoSem.Step
set_option linter.unusedVariables false
set_option linter.unusedSimpArgs false
namespace Go.Abs
noncomputable section
inductive Tr (α : Type) where
  | nil
  | node (l : Tr α) (v : Option α) (r : Tr α)
  deriving Inhabited
def Tr.get {α : Type} : Tr α → Nat → Option α
  | .nil,_ => none
  | .node l v r,k => bif Nat.beq k 0 then v else bif Nat.beq (k % 2) 1 then l.get (k / 2) else r.get (k / 2 - 1)
def Tr.setF {α : Type} : Nat → Tr α → Nat → Option α → Tr α
  | 0,t,_,_ => t
  | f + 1,.nil,k,v => bif Nat.beq k 0 then .node .nil v .nil else bif Nat.beq (k % 2) 1 then .node (Tr.setF f .nil (k / 2) v) none .nil else .node .nil none (Tr.setF f .nil (k / 2 - 1) v)
  | f + 1,.node l u r,k,v => bif Nat.beq k 0 then .node l v r else bif Nat.beq (k % 2) 1 then .node (Tr.setF f l (k / 2) v) u r else .node l u (Tr.setF f r (k / 2 - 1) v)
def Tr.set {α : Type} (t : Tr α) (k : Nat) (v : Option α) : Tr α := Tr.setF (k + 1) t k v
def Tr.ofListFrom {α : Type} : Nat → List α → Tr α → Tr α
  | _,[],t => t
  | i,x :: xs,t => Tr.ofListFrom (i + 1) xs (t.set i (some x))
def Tr.ofList {α : Type} (l : List α) : Tr α := Tr.ofListFrom 0 l .nil
inductive D where
  | v (x : Value)
  | int (k : IntKind) (n : Int)
  | str (l : List Nat)
  | ptr (l off : Nat)
  | ep (cells : List D)
  | sl (id n : Nat) (cells : List D)
  | row (l off len cap : Nat)
  | map (l : Nat)
  | agg (cs : List D)
  | tup (cs : List D)
  | func (fn : Fn) (first captured : List D)
  | iface (t : TypeId) (d : D)
  deriving Inhabited
def ZE (s : ByteArray) : List Nat := s.data.toList.map (·.toNat)
def strV (l : List Nat) : ByteArray := ⟨(l.map UInt8.ofNat).toArray⟩
def D.of0 : Value → D
  | .int k n => .int k n
  | .string s => .str (ZE s)
  | x => .v x
def D.of : Value → D
  | .agg cs => .agg (cs.toList.map .of0)
  | .tuple vs => .tup (vs.toList.map .of0)
  | x => .of0 x
def D.plain1 : D → Option Value
  | .v x => some x
  | .int k n => some (.int k n)
  | .str l => some (.string (strV l))
  | _ => none
def Z1u : List D → Option (List Value)
  | [] => some []
  | d :: r => match d.plain1,Z1u r with
    | some x,some l => some (x :: l)
    | _,_ => none
def D.plain0 : D → Option Value
  | .agg cs => match Z1u cs with
    | some l => some (.agg l.toArray)
    | none => none
  | d => d.plain1
def D.plain : D → Option Value
  | .iface t d => match d.plain0 with
    | some x => some (.iface t x)
    | none => none
  | d => d.plain0
def Zgj : List D → Option (List Value)
  | [] => some []
  | d :: r => match d.plain,Zgj r with
    | some x,some l => some (x :: l)
    | _,_ => none
def D.cells : D → List D
  | .agg cs => cs
  | .v (.agg cs) => cs.toList.map .v
  | d => [d]
def D.one : D → Bool
  | .agg _ | .tup _ | .v (.agg _) | .v (.tuple _) => false
  | _ => true
def Y4 : List D → Bool
  | [] => true
  | d :: r => d.one && Y4 r
def ZD : D := .tup []
inductive AObj where
  | cells (t : TypeId) (cs : List D)
  | map (es : List (D × D))
  | tip (n : Nat) (e : TypeId)
  deriving Inhabited
structure H where
  next : Nat
  mem : Tr AObj
  deriving Inhabited
def H.new (h : H) (o : AObj) : Nat × H := (h.next,⟨h.next + 1,h.mem.set h.next (some o)⟩)
def H.put (h : H) (l : Nat) (o : AObj) : H := ⟨h.next,h.mem.set l (some o)⟩
inductive O (α : Type) where
  | ok (a : α) (h : H)
  | panic (d : D) (h : H)
  | fail (why : String)
  deriving Inhabited
def O.mk (p : Bool) (d : D) (h : H) : O D :=
  match p with
  | false => .ok d h
  | true => .panic d h
def Zf9 {α : Type} (p : Program) : Sem α → Option α
  | .pure a => some a
  | .program k => Zf9 p (k p)
  | .mark _ k => Zf9 p k
  | _ => none
def Z3 (h : H) (a : D) (n : Nat) : Option (List D) :=
  match a with
  | .ptr l off => match h.mem.get l with
    | some (.cells _ cs) => let r := (cs.drop off).take n; bif Nat.beq r.length n then some r else none
    | _ => none
  | .ep cs => let r := cs.take n; bif Nat.beq r.length n then some r else none
  | _ => none
def patch (cs : List D) (off : Nat) (xs : List D) : Option (List D) :=
  bif Nat.ble (off + xs.length) cs.length then some (cs.take off ++ xs ++ cs.drop (off + xs.length)) else none
def Zjb (h : H) (size : Nat) (a x : D) : Option H :=
  match a with
  | .ptr l off => match h.mem.get l with
    | some (.cells t cs) =>
      bif Nat.beq x.cells.length size && Y4 x.cells then
        match patch cs off x.cells with
        | some cs => some (h.put l (.cells t cs))
        | none => none
      else none
    | _ => none
  | _ => none
def Zz (h : H) (size : Nat) : D → Option (Nat × List D)
  | .v (.slice none 0 0) => some (0,[])
  | .sl _ n cs => bif Nat.beq cs.length (n * size) then some (n,cs) else none
  | .row l off len _ => match Z3 h (.ptr l off) (len * size) with
    | some cs => some (len,cs)
    | none => none
  | _ => none
def Yz (l : List Nat) : List D := l.map fun b => .int .u8 (.ofNat b)
def Wl : List D → Option (List Nat)
  | [] => some []
  | .int .u8 (.ofNat n) :: r => match Wl r with
    | some l => bif Nat.blt n 256 then some (n :: l) else none
    | none => none
  | _ :: _ => none
def repeatL (l : List D) : Nat → List D
  | 0 => []
  | n + 1 => l ++ repeatL l n
def Vb (h : H) (e : TypeId) (size bytes : Nat) (s x : D) : O D :=
  match Zz h size x with
  | some (m,ys) =>
    bif Nat.beq m 0 then (match s with
      | .v (.slice none 0 0) | .sl _ _ _ => .ok s h
      | _ => .fail "append: nothing") else
    bif Y4 ys && Nat.beq ys.length (m * size) && !Nat.beq size 0 then
    match s with
    | .v (.slice none 0 0) =>
      bif Nat.ble (m * bytes) 140737488355328 && Nat.ble m 140737488355328 then
      let (id,h) := h.new (.tip m e)
      .ok (.sl id m ys) h
      else .fail "append: size"
    | .sl id n cs => match h.mem.get id with
      | some (.tip k u) => bif Nat.beq k n && Nat.beq u e && Nat.beq cs.length (n * size) && Nat.ble ((n + m) * bytes) 140737488355328 && Nat.ble (n + m) 140737488355328 then .ok (.sl id (n + m) (cs ++ ys)) (h.put id (.tip (n + m) e)) else .fail "append: not the tip"
      | _ => .fail "append: no tip"
    | _ => .fail "append: no slice"
    else .fail "append: cells"
  | none => .fail "append: what?"
def UR (h : H) (e : TypeId) (s x : D) : O D :=
  match x with
  | .str bs =>
    bif Nat.beq bs.length 0 then (match s with
      | .v (.slice none 0 0) | .sl _ _ _ => .ok s h
      | _ => .fail "append: nothing") else
    match s with
    | .v (.slice none 0 0) =>
      bif Nat.ble bs.length 140737488355328 then
      let (id,h) := h.new (.tip bs.length e)
      .ok (.sl id bs.length (Yz bs)) h
      else .fail "append: size"
    | .sl id n cs => match h.mem.get id with
      | some (.tip k u) => bif Nat.beq k n && Nat.beq u e && Nat.beq cs.length n && Nat.ble (n + bs.length) 140737488355328 then .ok (.sl id (n + bs.length) (cs ++ Yz bs)) (h.put id (.tip (n + bs.length) e)) else .fail "append: not the tip"
      | _ => .fail "append: no tip"
    | _ => .fail "append: no slice"
  | _ => .fail "append: what?"
def Z06 (len cap : Nat) : Option D → Option Nat
  | none => some len
  | some (.int _ (.ofNat n)) => bif Nat.ble n cap then some n else none
  | some _ => none
def Z6e (h : Nat) : Option D → Option (Nat × Nat)
  | none => some (0,h)
  | some (.int _ (.ofNat n)) => bif Nat.ble n h then some (n,h) else none
  | some _ => none
def Wh (len cap : Nat) (lo hi : Option D) : Option (Nat × Nat) :=
  match Z06 len cap hi with
  | some h => Z6e h lo
  | none => none
def Zk2 (size : Nat) (x : D) (lo hi : Option D) : Option D :=
  match x with
  | .v (.slice none 0 0) => match Wh 0 0 lo hi with
    | some _ => some x
    | none => none
  | .sl id n cs => match Wh n n lo hi with
    | some (l,k) =>
      bif Nat.beq l 0 && Nat.beq k n then some x else some (.sl 0 (k - l) ((cs.drop (l * size)).take ((k - l) * size)))
    | none => none
  | .row b off len cap => match Wh len cap lo hi with
    | some (l,k) => bif Nat.beq l cap then none else some (.row b (off + l * size) (k - l) (cap - l))
    | none => none
  | _ => none
def Zqg (n size : Nat) (x : D) (lo hi : Option D) : Option D :=
  match x with
  | .ptr b off => match Wh n n lo hi with
    | some (l,k) => bif Nat.beq l n then none else some (.row b (off + l * size) (k - l) (n - l))
    | none => none
  | .ep cs => match Wh n n lo hi with
    | some (l,k) => bif Nat.beq l n then none else some (.sl 0 (k - l) ((cs.drop (l * size)).take ((k - l) * size)))
    | none => none
  | _ => none
def U9 (i : D) (n : Nat) : Option Nat :=
  match i with
  | .int _ (.ofNat i) => bif Nat.blt i n then some i else none
  | _ => none
def Zij (n size : Nat) (x i : D) : Option D :=
  match U9 i n,x with
  | some i,.ptr l off => some (.ptr l (off + i * size))
  | some i,.ep cs => some (.ep (cs.drop (i * size)))
  | _,_ => none
def Zed (size : Nat) (x i : D) : Option D :=
  match x with
  | .sl _ n cs => match U9 i n with
    | some i => match cs.drop (i * size) with
      | [] => none
      | c :: r => some (.ep (c :: r))
    | none => none
  | .row l off n _ => match U9 i n with
    | some i => some (.ptr l (off + i * size))
    | none => none
  | _ => none
def UQ : List Nat → List Nat → Bool
  | [],[] => true
  | a :: x,b :: y => Nat.beq a b && UQ x y
  | _,_ => false
def Wv : D → D → Option Bool
  | .int j a,.int k b => bif decide (j = k) then some (decide (a = b)) else none
  | .str a,.str b => some (UQ a b)
  | .v (.bool a),.v (.bool b) => some (bif a then b else !b)
  | _,_ => none
def Xr (k : D) : List (D × D) → Option (Option D)
  | [] => some none
  | (q,d) :: r => match Wv k q with
    | some true => some (some d)
    | some false => Xr k r
    | none => none
def Ux (k : D) (d : D) : List (D × D) → Option (List (D × D))
  | [] => some [(k,d)]
  | (q,e) :: r => match Wv k q with
    | some true => some ((q,d) :: r)
    | some false => match Ux k d r with
      | some r => some ((q,e) :: r)
      | none => none
    | none => none
def Zab : Nat → D → Bool
  | 0,.int _ _ => true
  | 1,.str _ => true
  | 2,.v (.bool _) => true
  | _,_ => false
def Zq1 (desc : Option TypeDesc) (a b : D) : Option Bool :=
  match desc,a,b with
  | some (.slice _),.v (.slice none _ _),.sl .. | some (.slice _),.v (.slice none _ _),.row .. | some (.slice _),.sl ..,.v (.slice none _ _) | some (.slice _),.row ..,.v (.slice none _ _) => some false
  | some (.pointer _),.v (.pointer none),.ptr .. | some (.pointer _),.v (.pointer none),.ep .. | some (.pointer _),.ptr ..,.v (.pointer none) | some (.pointer _),.ep ..,.v (.pointer none) => some false
  | some (.map _ _),.v (.map none),.map _ | some (.map _ _),.map _,.v (.map none) => some false
  | some (.func _ _ _),.v .nilFunc,.func .. | some (.func _ _ _),.func ..,.v .nilFunc => some false
  | some (.interface _),.v .nilIface,.iface .. | some (.interface _),.iface ..,.v .nilIface => some false
  | _,_,_ => none
inductive Opd where
  | t (n : Nat)
  | d (d : D)
  deriving Inhabited
inductive COp where
  | mv (x : Opd)
  | mvs (x : Opd)
  | pick (c a b : Opd)
  | alloc (t : TypeId) (z : List D)
  | box (t : TypeId) (x : Opd)
  | build (z : List D) (parts : List (Nat × Nat × Opd))
  | buildSl (e : TypeId) (len : Nat) (z : List D) (parts : List (Nat × Nat × Opd))
  | ld1 (a : Opd)
  | ldN (n : Nat) (a : Opd)
  | st (n : Nat) (a x : Opd)
  | nilCheck (x : Opd)
  | bin (op : BinOp) (t : TypeId) (ox oy : Operand) (x y : Opd)
  | un (op : UnOp) (x : Opd)
  | cint (k : IntKind) (x : Opd)
  | s2b (e : TypeId) (x : Opd)
  | b2s (x : Opd)
  | conv (s t : TypeId) (x : Opd)
  | iface (t : TypeId) (x : Opd)
  | mkf (fn : Fn) (first captured : List Opd)
  | mkmap
  | mksl (e : TypeId) (size bytes : Nat) (z : List D) (l c : Opd)
  | slstr (x : Opd) (lo hi : Option Opd)
  | slsl (size : Nat) (x : Opd) (lo hi : Option Opd)
  | slarr (n size : Nat) (x : Opd) (lo hi : Option Opd)
  | fa (off : Nat) (x : Opd)
  | fld (ag : Bool) (off n : Nat) (x : Opd)
  | ixa (n size : Nat) (x i : Opd)
  | ixs (size : Nat) (x i : Opd)
  | idxa (ag : Bool) (n size : Nat) (x i : Opd)
  | idxs (x i : Opd)
  | apps (e : TypeId) (s x : Opd)
  | lookV (kt : TypeId) (z : D) (x k : Opd) (ok : Bool)
  | msetV (kt : TypeId) (m k x : Opd)
  | look (kd : Nat) (z : D) (x k : Opd) (ok : Bool)
  | mset (kd : Nat) (m k x : Opd)
  | tas (t : TypeId) (z : D) (x : Opd) (ok : Bool)
  | ext (i : Nat) (x : Opd)
  | call (f : Opd) (args : List Opd)
  | app (e : TypeId) (size bytes : Nat) (s x : Opd)
  | lens (x : Opd)
  | len (x : Opd)
  | lenm (x : Opd)
  | copy (size : Nat) (d s : Opd)
  | bi (b : Builtin) (argTypes : Array TypeId) (type : TypeId) (consts : Array Bool) (args : List Opd)
  | panic (x : Opd)
  | dfr (f : Opd)
  | rcv
  deriving Inhabited
structure CO where
  dst : Option Nat
  guard : Option (Nat × Bool)
  op : COp
  deriving Inhabited
inductive CC where
  | skip
  | ops (l : List CO)
  | draw (inc : List (List Nat)) (l : List CO)
  | seq (a b : CC)
  | cond (c : Opd) (a b : CC)
  | block (id : Nat) (c : CC)
  | loop (c : CC)
  | exit (id : Nat)
  | ret
  | stop
  | back (ag : Bool) (size : Nat) (gs : List Nat) (f : Opd) (x y : Nat) (assign body : CC)
  deriving Inhabited
inductive CRes where
  | t (n : Nat)
  | c1 (n : Nat)
  | cN (n size : Nat)
  deriving Inhabited
structure CFn where
  results : List CRes
  body : CC
  deriving Inhabited
structure Env where
  P : Program
  fns : Nat → Option CFn
  lib : Nat → Option (List D → H → O D)
  dfrs : Nat → Option (Option Nat × CC)
variable (E : Env)
structure AAct where
  tmps : Tr D
  defers : List D
  rec? : Option D
  recd : Bool
  deriving Inhabited
def AAct.eval (a : AAct) : Opd → D
  | .t n => match a.tmps.get n with
    | some d => d
    | none => ZD
  | .d d => d
def AAct.evals (a : AAct) : List Opd → List D
  | [] => []
  | x :: r => a.eval x :: a.evals r
def AAct.put (a : AAct) (dst : Option Nat) (d : D) : AAct :=
  match dst with
  | some t => { a with tmps := a.tmps.set t (some d) }
  | none => a
def Zbl (o : Option D) (h : H) (why : String) : O D :=
  match o with
  | some d => .ok d h
  | none => .fail why
def Zbq (a : AAct) (cells : List D) : List (Nat × Nat × Opd) → Option (List D)
  | [] => some cells
  | (off,size,x) :: r =>
    let d := a.eval x
    bif Nat.beq d.cells.length size then
      match patch cells off d.cells with
      | some cells => Zbq a cells r
      | none => none
    else none
def Zka (ag : Bool) (n : Nat) (cs : List D) (off : Nat) : Option D :=
  bif ag then
    let r := (cs.drop off).take n
    bif Nat.beq r.length n then some (.agg r) else none
  else match cs.drop off with
    | d :: _ => some d
    | [] => none
def Z4t (i : IntKind) (n : Int) : Bool :=
  match i with
  | .i8 => decide (-128 ≤ n) && decide (n ≤ 127)
  | .i16 => decide (-32768 ≤ n) && decide (n ≤ 32767)
  | .i32 => decide (-2147483648 ≤ n) && decide (n ≤ 2147483647)
  | .i64 => decide (-9223372036854775808 ≤ n) && decide (n ≤ 9223372036854775807)
  | .u8 => decide (0 ≤ n) && decide (n ≤ 255)
  | .u16 => decide (0 ≤ n) && decide (n ≤ 65535)
  | .u32 => decide (0 ≤ n) && decide (n ≤ 4294967295)
  | .u64 => decide (0 ≤ n) && decide (n ≤ 18446744073709551615)
def Zg1 (k : IntKind) (n : Int) : Int := bif Z4t k n then n else k.wrap n
def Za6 (op : BinOp) (x y : D) : Option D :=
  match x,y with
  | .int k a,.int k' b =>
    match op with
    | .add => bif decide (k = k') then some (.int k (Zg1 k (a + b))) else none
    | .sub => bif decide (k = k') then some (.int k (Zg1 k (a - b))) else none
    | .mul => bif decide (k = k') then some (.int k (Zg1 k (a * b))) else none
    | .eql => bif decide (k = k') then some (.v (.bool (decide (a = b)))) else none
    | .neq => bif decide (k = k') then some (.v (.bool (!decide (a = b)))) else none
    | .lss => bif decide (k = k') then some (.v (.bool (decide (a < b)))) else none
    | .leq => bif decide (k = k') then some (.v (.bool (decide (a ≤ b)))) else none
    | .gtr => bif decide (k = k') then some (.v (.bool (decide (b < a)))) else none
    | .geq => bif decide (k = k') then some (.v (.bool (decide (b ≤ a)))) else none
    | _ => none
  | .str a,.str b =>
    match op with
    | .eql => some (.v (.bool (UQ a b)))
    | .neq => some (.v (.bool (!UQ a b)))
    | .add => bif Nat.ble (a.length + b.length) 140737488355328 then some (.str (a ++ b)) else none
    | _ => none
  | _,_ => none
def Zcq (op : BinOp) (t : TypeId) (ox oy : Operand) (x y : D) : Option D :=
  match Za6 op x y with
  | some d => some d
  | none => match x.plain,y.plain with
    | some a,some b => match Zf9 E.P (do eqGuard op t ox oy a b; binOp op t a b) with
      | some v => some (.of v)
      | none => none
    | _,_ => match op,Zq1 (E.P.underlying t) x y with
      | .eql,some b => some (.v (.bool b))
      | .neq,some b => some (.v (.bool !b))
      | _,_ => none
def Zh5 (call : Nat → List D → H → O D) (f : D) (args : List D) (h : H) : O D :=
  match f with
  | .v (.func (.func f) first captured) => call f (first.toList.map .of ++ args ++ captured.toList.map .of) h
  | .func (.func f) first captured => call f (first ++ args ++ captured) h
  | _ => .fail "call: what?"
abbrev Call := Nat → List D → H → O D
def Zsc (x : Opd) (E : Env) (call : Call) (a : AAct) (h : H) : O D :=
  .ok (a.eval x) h
def Ziz (x : Opd) (E : Env) (call : Call) (a : AAct) (h : H) : O D :=
  match a.eval x with
  | .str l => .ok (.str l) h
  | _ => .fail "string"
def Zge (c : Opd) (x : Opd) (y : Opd) (E : Env) (call : Call) (a : AAct) (h : H) : O D :=
  match a.eval c with
    | .v (.bool b) => .ok (bif b then a.eval x else a.eval y) h
    | _ => .fail "pick"
def Zdo (t : TypeId) (z : List D) (E : Env) (call : Call) (a : AAct) (h : H) : O D :=
  let (l,h) := h.new (.cells t z); .ok (.ptr l 0) h
def Zj6 (t : TypeId) (x : Opd) (E : Env) (call : Call) (a : AAct) (h : H) : O D :=
  let (l,h) := h.new (.cells t (a.eval x).cells); .ok (.ptr l 0) h
def Za0 (z : List D) (parts : List (Nat × Nat × Opd)) (E : Env) (call : Call) (a : AAct) (h : H) : O D :=
  match Zbq a z parts with
    | some cs => .ok (.agg cs) h
    | none => .fail "build"
def U6 (e : TypeId) (len : Nat) (z : List D) (parts : List (Nat × Nat × Opd)) (E : Env) (call : Call) (a : AAct) (h : H) : O D :=
  match Zbq a z parts with
    | some cs => let (id,h) := h.new (.tip len e); .ok (.sl id len cs) h
    | none => .fail "buildSl"
def Zhk (x : Opd) (E : Env) (call : Call) (a : AAct) (h : H) : O D :=
  match Z3 h (a.eval x) 1 with
    | some [d] => .ok d h
    | _ => .fail "load"
def Zhj (n : Nat) (x : Opd) (E : Env) (call : Call) (a : AAct) (h : H) : O D :=
  match Z3 h (a.eval x) n with
    | some cs => .ok (.agg cs) h
    | none => .fail "loadN"
def Zpx (n : Nat) (x : Opd) (y : Opd) (E : Env) (call : Call) (a : AAct) (h : H) : O D :=
  match Zjb h n (a.eval x) (a.eval y) with
    | some h => .ok ZD h
    | none => .fail "store"
def Xs (x : Opd) (E : Env) (call : Call) (a : AAct) (h : H) : O D :=
  match a.eval x with
    | .ptr l off => .ok (.ptr l off) h
    | .ep cs => .ok (.ep cs) h
    | .func (.func f) x y => .ok (.func (.func f) x y) h
    | .v (.func (.func f) x y) => .ok (.v (.func (.func f) x y)) h
    | _ => .fail "nil"
def Zmh (op : BinOp) (t : TypeId) (ox : Operand) (oy : Operand) (x : Opd) (y : Opd) (E : Env) (call : Call) (a : AAct) (h : H) : O D :=
  Zbl (Zcq E op t ox oy (a.eval x) (a.eval y)) h "bin"
def Zey (op : UnOp) (x : Opd) (E : Env) (call : Call) (a : AAct) (h : H) : O D :=
  match op,a.eval x with
    | .not,.v (.bool b) => .ok (.v (.bool !b)) h
    | op,d => match d.plain with
      | some u => match Zf9 E.P (Op.unary op u) with
        | some v => .ok (.of v) h
        | none => .fail "un"
      | none => .fail "un"
def Zgh (k : IntKind) (x : Opd) (E : Env) (call : Call) (a : AAct) (h : H) : O D :=
  match a.eval x with
    | .int _ n => .ok (.int k (Zg1 k n)) h
    | _ => .fail "cint"
def Zd4 (e : TypeId) (x : Opd) (E : Env) (call : Call) (a : AAct) (h : H) : O D :=
  match a.eval x with
    | .str l => .ok (.sl 0 l.length (Yz l)) h
    | _ => .fail "s2b"
def Zbw (x : Opd) (E : Env) (call : Call) (a : AAct) (h : H) : O D :=
  match Zz h 1 (a.eval x) with
    | some (_,cs) => match Wl cs with
      | some l => .ok (.str l) h
      | none => .fail "b2s"
    | none => .fail "b2s"
def Zgg (s : TypeId) (t : TypeId) (x : Opd) (E : Env) (call : Call) (a : AAct) (h : H) : O D :=
  match (a.eval x).plain with
    | some u => match Zf9 E.P (convert s t u) with
      | some v => .ok (.of v) h
      | none => .fail "conv"
    | none => .fail "conv"
def U5 (t : TypeId) (x : Opd) (E : Env) (call : Call) (a : AAct) (h : H) : O D :=
  .ok (.iface t (a.eval x)) h
def Zi0 (fn : Fn) (x : List Opd) (y : List Opd) (E : Env) (call : Call) (a : AAct) (h : H) : O D :=
  .ok (.func fn (a.evals x) (a.evals y)) h
def Zdn  (E : Env) (call : Call) (a : AAct) (h : H) : O D :=
  let (l,h) := h.new (.map []); .ok (.map l) h
def Za3 (e : TypeId) (size : Nat) (bytes : Nat) (z : List D) (l : Opd) (c : Opd) (E : Env) (call : Call) (a : AAct) (h : H) : O D :=
  match a.eval l,a.eval c with
    | .int _ (.ofNat n),.int _ (.ofNat m) =>
      bif Nat.ble m 140737488355328 && Nat.ble (m * bytes) 140737488355328 then
        bif Nat.beq n m then let (l,h) := h.new (.cells e (repeatL z n)); .ok (.row l 0 n n) h
        else bif Nat.beq n 0 then let (id,h) := h.new (.tip 0 e); .ok (.sl id 0 []) h
        else .fail "makeSlice"
      else .fail "makeSlice"
    | _,_ => .fail "makeSlice"
def Zb7 (x : Opd) (lo : Option Opd) (hi : Option Opd) (E : Env) (call : Call) (a : AAct) (h : H) : O D :=
  match a.eval x with
    | .str s => match Wh s.length s.length (lo.map a.eval) (hi.map a.eval) with
      | some (l,k) => .ok (.str ((s.drop l).take (k - l))) h
      | none => .fail "slice: string"
    | _ => .fail "slice: string"
def Za1 (size : Nat) (x : Opd) (lo : Option Opd) (hi : Option Opd) (E : Env) (call : Call) (a : AAct) (h : H) : O D :=
  Zbl (Zk2 size (a.eval x) (lo.map a.eval) (hi.map a.eval)) h "slice"
def Zb8 (n : Nat) (size : Nat) (x : Opd) (lo : Option Opd) (hi : Option Opd) (E : Env) (call : Call) (a : AAct) (h : H) : O D :=
  Zbl (Zqg n size (a.eval x) (lo.map a.eval) (hi.map a.eval)) h "slice: array"
def Zi1 (off : Nat) (x : Opd) (E : Env) (call : Call) (a : AAct) (h : H) : O D :=
  match a.eval x with
    | .ptr l o => .ok (.ptr l (o + off)) h
    | .ep cs => .ok (.ep (cs.drop off)) h
    | _ => .fail "fieldAddr"
def Zd6 (ag : Bool) (off : Nat) (n : Nat) (x : Opd) (E : Env) (call : Call) (a : AAct) (h : H) : O D :=
  match a.eval x with
    | .agg cs => Zbl (Zka ag n cs off) h "field"
    | _ => .fail "field"
def Zfc (n : Nat) (size : Nat) (x : Opd) (i : Opd) (E : Env) (call : Call) (a : AAct) (h : H) : O D :=
  Zbl (Zij n size (a.eval x) (a.eval i)) h "index: array"
def Zfb (size : Nat) (x : Opd) (i : Opd) (E : Env) (call : Call) (a : AAct) (h : H) : O D :=
  Zbl (Zed size (a.eval x) (a.eval i)) h "index: slice"
def Za5 (ag : Bool) (n : Nat) (size : Nat) (x : Opd) (i : Opd) (E : Env) (call : Call) (a : AAct) (h : H) : O D :=
  match a.eval x,U9 (a.eval i) n with
    | .agg cs,some i => Zbl (Zka ag size cs (i * size)) h "index: value"
    | _,_ => .fail "index: value"
def Za4 (x : Opd) (i : Opd) (E : Env) (call : Call) (a : AAct) (h : H) : O D :=
  match a.eval x,a.eval i with
    | .str s,.int _ (.ofNat i) => match s.drop i with
      | b :: _ => .ok (.int .u8 (.ofNat b)) h
      | [] => .fail "index: string"
    | _,_ => .fail "index: string"
def Zvj (P : Program) (kt : TypeId) (kv : Value) : List (D × D) → Option (Option D)
  | [] => some none
  | (q,d) :: r => match q.plain with
    | some qv => match Zf9 P (Op.equal kt kv qv) with
      | some true => some (some d)
      | some false => Zvj P kt kv r
      | none => none
    | none => none
def Z21 (P : Program) (kt : TypeId) (k : D) (kv : Value) (d : D) : List (D × D) → Option (List (D × D))
  | [] => some [(k,d)]
  | (q,e) :: r => match q.plain with
    | some qv => match Zf9 P (Op.equal kt kv qv) with
      | some true => bif Instr.sameBits 10000 qv kv then some ((k,d) :: r) else none
      | some false => match Z21 P kt k kv d r with
        | some r => some ((q,e) :: r)
        | none => none
      | none => none
    | none => none
def Zu0 (h : H) : D → Option (List (D × D))
  | .v (.map none) => some []
  | .map l => match h.mem.get l with
    | some (.map es) => some es
    | _ => none
  | _ => none
def Zb9 (kt : TypeId) (z : D) (x : Opd) (k : Opd) (ok : Bool) (E : Env) (call : Call) (a : AAct) (h : H) : O D :=
  match (a.eval k).plain,Zu0 h (a.eval x) with
  | some kv,some es => match Zf9 E.P (Instr.checkKey es.isEmpty 10000 kt kv),Zvj E.P kt kv es with
    | some _,some (some d) => .ok (bif ok then .tup [d,.v (.bool true)] else d) h
    | some _,some none => .ok (bif ok then .tup [z,.v (.bool false)] else z) h
    | _,_ => .fail "lookup: struct key"
  | _,_ => .fail "lookup: struct"
def Zex (kt : TypeId) (m : Opd) (k : Opd) (x : Opd) (E : Env) (call : Call) (a : AAct) (h : H) : O D :=
  match a.eval m,(a.eval k).plain with
  | .map l,some kv => match h.mem.get l with
    | some (.map es) => match Zf9 E.P (Instr.checkKey false 10000 kt kv),Z21 E.P kt (a.eval k) kv (a.eval x) es with
      | some _,some es => .ok ZD (h.put l (.map es))
      | _,_ => .fail "mapUpdate: struct key"
    | _ => .fail "mapUpdate"
  | _,_ => .fail "mapUpdate"
def U7 (flat : Nat) (z : D) (x : Opd) (k : Opd) (ok : Bool) (E : Env) (call : Call) (a : AAct) (h : H) : O D :=
  bif Zab flat (a.eval k) then match (match a.eval x with
        | .v (.map none) => some []
        | .map l => match h.mem.get l with
          | some (.map es) => some es
          | _ => none
        | _ => none) with
      | some es => match Xr (a.eval k) es with
        | some (some d) => .ok (bif ok then .tup [d,.v (.bool true)] else d) h
        | some none => .ok (bif ok then .tup [z,.v (.bool false)] else z) h
        | none => .fail "lookup: key"
      | none => .fail "lookup"
    else .fail "lookup"
def Za2 (flat : Nat) (m : Opd) (k : Opd) (x : Opd) (E : Env) (call : Call) (a : AAct) (h : H) : O D :=
  match a.eval m with
    | .map l => bif Zab flat (a.eval k) then match h.mem.get l with
      | some (.map es) => match Ux (a.eval k) (a.eval x) es with
        | some es => .ok ZD (h.put l (.map es))
        | none => .fail "mapUpdate: key"
      | _ => .fail "mapUpdate"
      else .fail "mapUpdate"
    | _ => .fail "mapUpdate"
def Zew (t : TypeId) (z : D) (x : Opd) (ok : Bool) (E : Env) (call : Call) (a : AAct) (h : H) : O D :=
  match a.eval x with
    | .v .nilIface => bif ok then .ok (.tup [z,.v (.bool false)]) h else .fail "typeAssert"
    | .iface u d => bif Nat.beq u t then .ok (bif ok then .tup [d,.v (.bool true)] else d) h else
        bif ok then .ok (.tup [z,.v (.bool false)]) h else .fail "typeAssert"
    | _ => .fail "typeAssert"
def Zfd (i : Nat) (x : Opd) (E : Env) (call : Call) (a : AAct) (h : H) : O D :=
  match a.eval x with
    | .tup ds => Zbl (ds[i]?) h "extract"
    | _ => .fail "extract"
def Zhl (f : Opd) (args : List Opd) (E : Env) (call : Call) (a : AAct) (h : H) : O D :=
  Zh5 call (a.eval f) (a.evals args) h
def Zgi (e : TypeId) (size : Nat) (bytes : Nat) (s : Opd) (x : Opd) (E : Env) (call : Call) (a : AAct) (h : H) : O D :=
  Vb h e size bytes (a.eval s) (a.eval x)
def Zca (x : Opd) (E : Env) (call : Call) (a : AAct) (h : H) : O D :=
  match a.eval x with
  | .str l => .ok (.int .i64 (.ofNat l.length)) h
  | _ => .fail "len"
def Zd5 (x : Opd) (E : Env) (call : Call) (a : AAct) (h : H) : O D :=
  match a.eval x with
  | .sl _ n _ => .ok (.int .i64 (.ofNat n)) h
  | .row _ _ n _ => .ok (.int .i64 (.ofNat n)) h
  | .v (.slice none 0 0) => .ok (.int .i64 (.ofNat 0)) h
  | _ => .fail "len"
def Zfa (x : Opd) (E : Env) (call : Call) (a : AAct) (h : H) : O D :=
  match a.eval x with
    | .map l => match h.mem.get l with
      | some (.map es) => .ok (.int .i64 (.ofNat es.length)) h
      | _ => .fail "len"
    | _ => .fail "len"
def Zlh (size : Nat) (d : Opd) (s : Opd) (E : Env) (call : Call) (a : AAct) (h : H) : O D :=
  match a.eval d,Zz h size (a.eval s) with
    | .row l off n _,some (m,ys) => match h.mem.get l with
      | some (.cells t cs) => bif Y4 ys && Nat.beq ys.length (m * size) then
          match patch cs off (ys.take (min m n * size)) with
          | some cs => .ok (.int .i64 (.ofNat (min m n))) (h.put l (.cells t cs))
          | none => .fail "copy"
        else .fail "copy"
      | _ => .fail "copy"
    | _,_ => .fail "copy"
def Zse (b : Builtin) (ts : Array TypeId) (t : TypeId) (cs : Array Bool) (args : List Opd) (E : Env) (call : Call) (a : AAct) (h : H) : O D :=
  match Zgj (a.evals args) with
    | some vs => match Zf9 E.P (builtin b ts t cs vs.toArray) with
      | some (.value v) => .ok (.of v) h
      | _ => .fail "builtin"
    | none => .fail "builtin: args"
def Zdp (e : TypeId) (s : Opd) (x : Opd) (E : Env) (call : Call) (a : AAct) (h : H) : O D :=
  UR h e (a.eval s) (a.eval x)
def US (x : Opd) (E : Env) (call : Call) (a : AAct) (h : H) : O D :=
  match a.eval x with
    | .iface t d => .panic (.iface t d) h
    | _ => .fail "panic"
def Zob (q0 : Opd) (E : Env) (call : Call) (a : AAct) (h : H) : O D :=
  .fail "defer"
def Zuj  (E : Env) (call : Call) (a : AAct) (h : H) : O D :=
  .fail "recover"
def Vh : COp → Env → Call → AAct → H → O D
  | .mv q0 => Zsc q0
  | .mvs q0 => Ziz q0
  | .pick q0 q1 q2 => Zge q0 q1 q2
  | .alloc q0 q1 => Zdo q0 q1
  | .box q0 q1 => Zj6 q0 q1
  | .build q0 q1 => Za0 q0 q1
  | .buildSl q0 q1 q2 q3 => U6 q0 q1 q2 q3
  | .ld1 q0 => Zhk q0
  | .ldN q0 q1 => Zhj q0 q1
  | .st q0 q1 q2 => Zpx q0 q1 q2
  | .nilCheck q0 => Xs q0
  | .bin q0 q1 q2 q3 q4 q5 => Zmh q0 q1 q2 q3 q4 q5
  | .un q0 q1 => Zey q0 q1
  | .cint q0 q1 => Zgh q0 q1
  | .s2b q0 q1 => Zd4 q0 q1
  | .b2s q0 => Zbw q0
  | .conv q0 q1 q2 => Zgg q0 q1 q2
  | .iface q0 q1 => U5 q0 q1
  | .mkf q0 q1 q2 => Zi0 q0 q1 q2
  | .mkmap => Zdn
  | .mksl q0 q1 q2 q3 q4 q5 => Za3 q0 q1 q2 q3 q4 q5
  | .slstr q0 q1 q2 => Zb7 q0 q1 q2
  | .slsl q0 q1 q2 q3 => Za1 q0 q1 q2 q3
  | .slarr q0 q1 q2 q3 q4 => Zb8 q0 q1 q2 q3 q4
  | .fa q0 q1 => Zi1 q0 q1
  | .fld q0 q1 q2 q3 => Zd6 q0 q1 q2 q3
  | .ixa q0 q1 q2 q3 => Zfc q0 q1 q2 q3
  | .ixs q0 q1 q2 => Zfb q0 q1 q2
  | .idxa q0 q1 q2 q3 q4 => Za5 q0 q1 q2 q3 q4
  | .idxs q0 q1 => Za4 q0 q1
  | .apps q0 q1 q2 => Zdp q0 q1 q2
  | .lookV q0 q1 q2 q3 q4 => Zb9 q0 q1 q2 q3 q4
  | .msetV q0 q1 q2 q3 => Zex q0 q1 q2 q3
  | .look q0 q1 q2 q3 q4 => U7 q0 q1 q2 q3 q4
  | .mset q0 q1 q2 q3 => Za2 q0 q1 q2 q3
  | .tas q0 q1 q2 q3 => Zew q0 q1 q2 q3
  | .ext q0 q1 => Zfd q0 q1
  | .call q0 q1 => Zhl q0 q1
  | .app q0 q1 q2 q3 q4 => Zgi q0 q1 q2 q3 q4
  | .lens q0 => Zca q0
  | .len q0 => Zd5 q0
  | .lenm q0 => Zfa q0
  | .copy q0 q1 q2 => Zlh q0 q1 q2
  | .bi q0 q1 q2 q3 q4 => Zse q0 q1 q2 q3 q4
  | .panic q0 => US q0
  | .dfr q0 => Zob q0
  | .rcv => Zuj
def UO (call : Call) (a : AAct) (o : COp) (h : H) : O D := Vh o E call a h
inductive AExit where
  | normal
  | exit (id : Nat)
  | ret
  deriving Inhabited
inductive X where
  | out (e : AExit) (a : AAct) (h : H)
  | panic (d : D) (a : AAct) (h : H)
  | fail (why : String)
  deriving Inhabited
inductive AEnd where
  | exit (e : AExit)
  | panic (d : D)
def X.mk (r : AEnd) (a : AAct) (h : H) : X :=
  match r with
  | .exit e => .out e a h
  | .panic d => .panic d a h
def Zn (a : AAct) (o : CO) : Bool :=
  match o.guard with
  | none => true
  | some (t,want) => match a.tmps.get t with
    | some (.v (.bool b)) => bif b then want else !want
    | _ => false
def ZP (call : Nat → List D → H → O D) : List CO → AAct → H → X
  | [],a,h => .out .normal a h
  | o :: r,a,h =>
    bif Zn a o then
      match o.op with
      | .dfr f => match a.eval f with
        | .func (.func g) x y => ZP call r ({ a with defers := .func (.func g) x y :: a.defers }.put o.dst ZD) h
        | _ => .fail "defer: of what?"
      | op => match UO E call a op h with
        | .ok d h => ZP call r (a.put o.dst d) h
        | .panic d h => .panic d a h
        | .fail w => .fail w
    else ZP call r (a.put o.dst ZD) h
def Z25 : Value → Value → Bool
  | .slice none a b,.slice none c d => Nat.beq a c && Nat.beq b d
  | .pointer none,.pointer none | .map none,.map none | .nilIface,.nilIface | .nilFunc,.nilFunc => true
  | .bool a,.bool b => bif a then b else !b
  | _,_ => false
mutual
def D.same : D → D → Bool
  | .v a,.v b => Z25 a b
  | .int k a,.int j b => decide (k = j) && decide (a = b)
  | .str a,.str b => UQ a b
  | .ptr a b,.ptr c d => Nat.beq a c && Nat.beq b d
  | .ep xs,.ep ys => ZR xs ys
  | .row a b c d,.row e f g h => Nat.beq a e && Nat.beq b f && Nat.beq c g && Nat.beq d h
  | .map a,.map b => Nat.beq a b
  | .sl i n xs,.sl j m ys => Nat.beq i j && Nat.beq n m && ZR xs ys
  | .agg xs,.agg ys => ZR xs ys
  | .tup xs,.tup ys => ZR xs ys
  | .iface t a,.iface u b => Nat.beq t u && D.same a b
  | _,_ => false
def ZR : List D → List D → Bool
  | [],[] => true
  | a :: x,b :: y => D.same a b && ZR x y
  | _,_ => false
end
inductive Rec where
  | rd (i : Nat) (a : D) (cs : List D)
  | loud (i : Nat) (h : H)
def Ya (i : Nat) : List Nat → Bool
  | [] => false
  | j :: r => Nat.beq i j || Ya i r
def Y8 : COp → Bool
  | .call .. | .st .. | .app .. | .apps .. | .mset .. | .msetV .. | .copy .. | .dfr _ | .rcv | .panic _ => true
  | _ => false
def Ziy : D → D × Nat
  | .row l off n _ => (.ptr l off,n * 1)
  | .sl _ n cs => (.ep cs,n * 1)
  | _ => (.ep [],0)
def YA (a : AAct) : COp → Option (D × Nat)
  | .ld1 x => some (a.eval x,1)
  | .ldN n x => some (a.eval x,n)
  | .b2s x => some (Ziy (a.eval x))
  | _ => none
def XA (inc : List Nat) (x : D) (cs : List D) : List Rec → Bool
  | [] => true
  | .loud i h :: r => (!Ya i inc || (match Z3 h x cs.length with
    | some ds => ZR cs ds
    | none => false)) && XA inc x cs r
  | _ :: r => XA inc x cs r
def YJ (inc : List Nat) (h : H) : List Rec → Bool
  | [] => true
  | .rd i x cs :: r => (!Ya i inc || (match Z3 h x cs.length with
    | some ds => ZR cs ds
    | none => false)) && YJ inc h r
  | _ :: r => YJ inc h r
def later (i : Nat) : List (List Nat) → Bool
  | [] => true
  | inc :: r => !Ya i inc && later i r
def Zo0 {α : Type} : List α → Bool
  | [] => true
  | _ :: _ => false
def Yk (call : Nat → List D → H → O D) (i : Nat) (recs : List Rec) : List (List Nat) → List CO → AAct → H → X
  | _,[],a,h => .out .normal a h
  | [],_ :: _,_,_ => .fail "draw"
  | inc :: Zr,o :: r,a,h =>
    bif Zn a o then
      match UO E call a o.op h with
      | .ok d h' =>
        match YA a o.op with
        | some (x,n) => match Z3 h x n with
          | some cs => bif XA inc x cs recs then Yk call (i + 1) (.rd i x cs :: recs) Zr r (a.put o.dst d) h' else .fail "draw: read"
          | none => .fail "draw: cells"
        | none =>
          bif Y8 o.op then
            bif YJ inc h' recs then Yk call (i + 1) (.loud i h :: recs) Zr r (a.put o.dst d) h' else .fail "draw: loud"
          else Yk call (i + 1) recs Zr r (a.put o.dst d) h'
      | .panic d h => bif Y8 o.op && later i Zr && (Zo0 a.defers || Zo0 inc) then .panic d a h else .fail "draw: panic"
      | .fail w => .fail w
    else Yk call (i + 1) recs Zr r (a.put o.dst ZD) h
def Z5m (ag : Bool) (size : Nat) : Nat → List D → List D
  | 0,_ => []
  | n + 1,cs => (bif ag then .agg (cs.take size) else (cs.headD ZD)) :: Z5m ag size n (cs.drop size)
def Zux (i : Nat) : List D → List (Nat × D)
  | [] => []
  | d :: r => (i,d) :: Zux (i + 1) r
def Zkw (run : AAct → H → X) (mk : Nat → D → AAct) (a : AAct) : List (Nat × D) → H → X
  | [],h => .out .normal a h
  | (i,d) :: r,h => match run (mk i d) h with
    | .out .normal _ h => Zkw run mk a r h
    | .out e _ h => .out e a h
    | .panic d _ h => .panic d a h
    | .fail w => .fail w
def Zc (call : Nat → List D → H → O D) : Nat → CC → AAct → H → X
  | 0,_,_,_ => .fail "fuel"
  | n + 1,c,a,h =>
    match c with
    | .skip => .out .normal a h
    | .ops l => ZP E call l a h
    | .draw inc l => Yk E call 0 [] inc l a h
    | .seq x y => match Zc call n x a h with
      | .out .normal a h => Zc call n y a h
      | r => r
    | .cond c x y => match a.eval c with
      | .v (.bool b) => bif b then Zc call n x a h else Zc call n y a h
      | _ => .fail "cond"
    | .block id c => match Zc call n c a h with
      | .out (.exit k) a h => bif Nat.beq k id then .out .normal a h else .out (.exit k) a h
      | r => r
    | .loop c => match Zc call n c a h with
      | .out .normal a h => Zc call n (.loop c) a h
      | r => r
    | .exit id => .out (.exit id) a h
    | .ret => .out .ret a h
    | .stop => .fail "refused"
    | .back ag size gs f x y assign body => match a.eval f with
      | .func (.func g) [] [p] => bif Ya g gs then
          match Z3 h p 1 with
          | some [s] => match Zz h size s with
            | some (k,cs) =>
                Zkw (fun a h => match Zc call n assign a h with
                  | .out .normal a h => Zc call n body a h
                  | r => r) (fun i d => (a.put (some x) (.int .i64 (.ofNat i))).put (some y) d) a (Zux 0 (Z5m ag size k cs)).reverse h
            | none => .fail "range: slice"
          | _ => .fail "range: read"
        else .fail "range: of what?"
      | _ => .fail "range"
def Xl (a : AAct) (h : H) : List CRes → Option (List D)
  | [] => some []
  | r :: rs => match (match r with
      | .t n => some (a.eval (.t n))
      | .c1 n => match Z3 h (a.eval (.t n)) 1 with
        | some [d] => some d
        | _ => none
      | .cN n size => match Z3 h (a.eval (.t n)) size with
        | some cs => some (.agg cs)
        | none => none),Xl a h rs with
    | some d,some ds => some (d :: ds)
    | _,_ => none
def Z32 : List D → D
  | [d] => d
  | ds => .tup ds
def Zbj (fn : CFn) (a : AAct) (h : H) : O D :=
  match Xl a h fn.results with
  | some ds => .ok (Z32 ds) h
  | none => .fail "results"
def start (args : List D) (r : Option D) : AAct := { tmps := Tr.ofList args,defers := [],rec? := r,recd := false }
def Zlb (r : Option D) : D :=
  match r with
  | some d => d
  | none => .v .nilIface
def Zfh (call : Call) (n : Nat) (df : D) (r : Option D) (h : H) : Option H :=
  match df with
  | .func (.func g) x y => match E.dfrs g with
    | some p => match Zc E call n p.2 ((start (x ++ y) none).put p.1 (Zlb r)) h with
      | .out e b h => match e with
        | .exit _ => none
        | _ => match b.defers with
          | [] => some h
          | _ => none
      | _ => none
    | none => none
  | _ => none
def Vg (call : Call) (n : Nat) (fn : CFn) (r : Option D) (a : AAct) (h : H) : O D :=
  match a.defers with
  | [] => match r with
    | none => Zbj fn a h
    | some d => .panic d h
  | [df] => match Zfh E call n df r h with
    | some h => Zbj fn a h
    | none => .fail "in a deferred call"
  | _ => .fail "defers"
def Zdk : Nat → Nat → List D → H → O D
  | 0,_,_,_ => .fail "fuel"
  | n + 1,f,args,h =>
    match E.lib f with
    | some g => g args h
    | none => match E.fns f with
      | none => .fail ("no function " ++ toString f)
      | some fn =>
        match Zc E (Zdk n) n fn.body (start args none) h with
        | .out e a h => match e with
          | .exit _ => .fail "exit"
          | _ => Vg E (Zdk n) n fn none a h
        | .panic d a h => Vg E (Zdk n) n fn (some d) a h
        | .fail w => .fail w
end
end Go.Abs
namespace Go.Abs
noncomputable section
section
variable (P : Program) (glob : Nat → Option (List D))
def Zec (t : TypeId) : Option Bool :=
  match P.underlying t with
  | some (.struct _) | some (.array _ _) => some true
  | some _ => some false
  | none => none
def Zak (t : TypeId) : Option D :=
  match P.info? t with
  | some i => match i.zero with
    | some v => some (.of v)
    | none => none
  | none => none
def Xd (t : TypeId) : Option Nat := (P.info? t).map (·.size)
def Zl2 (t : TypeId) : Option Nat := (P.info? t).map (·.bytes)
def ZC (x : Operand) : Option Opd :=
  match x with
  | .tmp t => some (.t t)
  | .const v => some (.d (.of v))
  | .global g => match glob g with
    | some cs => some (.d (.ep cs))
    | none => none
  | .func f => some (.d (.v (.func (.func f) #[] #[])))
def Zg9 : List Operand → Option (List Opd)
  | [] => some []
  | x :: r => match ZC glob x,Zg9 r with
    | some y,some l => some (y :: l)
    | _,_ => none
def Zf1 (x : Option Operand) : Option (Option Opd) :=
  match x with
  | none => some none
  | some x => match ZC glob x with
    | some y => some (some y)
    | none => none
def Zfg (place : Nat → Option (Nat × Nat)) : List (Nat × Operand) → Option (List (Nat × Nat × Opd))
  | [] => some []
  | (i,x) :: r => match place i,ZC glob x,Zfg place r with
    | some (off,size),some y,some l => some ((off,size,y) :: l)
    | _,_,_ => none
def Zpo (fs : List Field) : Bool := fs.all fun f => (Xd P f.type).isSome
def Zgp (t : TypeId) : Option Nat :=
  match P.underlying t with
  | some (.int _) => some 0
  | some .string => some 1
  | some .bool => some 2
  | _ => none
def Zh6 (e : TypeId) : Bool :=
  match P.info? e with
  | some i => Nat.beq i.size 1 && Nat.beq i.bytes 1 && (match i.zero with
    | some (.int .u8 0) => true
    | _ => false)
  | none => false
def U4 (t : TypeId) : Bool :=
  match P.underlying t with
  | some (.struct _) => true
  | _ => false
def Zp4 (o : Oper) : Option COp :=
  match o.op with
  | .move x | .assign x => (ZC glob x).map .mv
  | .pick c a b => match ZC glob c,ZC glob a,ZC glob b with
    | some c,some a,some b => some (.pick c a b)
    | _,_,_ => none
  | .alloc t => (Zak P t).map fun z => .alloc t z.cells
  | .box t x => (ZC glob x).map (.box t)
  | .build t parts => match Zak P t,P.underlying t with
    | some z,some (.struct fs) => bif Zpo P fs.toList then
        (Zfg glob (fun i => (fs[i]?).bind fun f => (Xd P f.type).map fun s => (f.offset,s)) parts.toList).map (.build z.cells)
      else none
    | some z,some (.array _ e) => match Xd P e with
      | some s => (Zfg glob (fun i => some (i * s,s)) parts.toList).map (.build z.cells)
      | none => none
    | _,_ => none
  | .buildSlice t len parts => match P.underlying t with
    | some (.slice e) => match Zak P e,Xd P e with
      | some z,some s => bif Nat.beq z.cells.length s && !Nat.beq s 0 && Nat.ble (len * s) 16777216 then
          (Zfg glob (fun i => some (i * s,s)) parts.toList).map (.buildSl e len (repeatL z.cells len))
        else none
      | _,_ => none
    | _ => none
  | .load t a => match Zec P t,Xd P t,ZC glob a with
    | some true,some n,some a => some (.ldN n a)
    | some false,some _,some a => some (.ld1 a)
    | _,_,_ => none
  | .store t a x => match Xd P t,ZC glob a,ZC glob x with
    | some n,some a,some x => some (.st n a x)
    | _,_,_ => none
  | .nilCheck x => (ZC glob x).map .nilCheck
  | .binOp op t x y _ => match ZC glob x,ZC glob y with
    | some a,some b => some (.bin op t x y a b)
    | _,_ => none
  | .unOp op _ x => (ZC glob x).map (.un op)
  | .convert s t x => match P.underlying s,P.underlying t,ZC glob x with
    | some (.int _),some (.int k),some x => some (.cint k x)
    | some .string,some .string,some x => some (.mvs x)
    | some .string,some (.slice e),some x => match P.underlying e with
      | some (.int .u8) => some (.s2b e x)
      | _ => none
    | some (.slice e),some .string,some x => match P.underlying e with
      | some (.int .u8) => some (.b2s x)
      | _ => none
    | _,_,some x => some (.conv s t x)
    | _,_,_ => none
  | .makeInterface t x => match P.underlying t with
    | some (.interface _) => none
    | some _ => (ZC glob x).map (.iface t)
    | none => none
  | .makeFunc fn a b => match Zg9 glob a.toList,Zg9 glob b.toList with
    | some a,some b => some (.mkf fn a b)
    | _,_ => none
  | .makeMap _ none => some .mkmap
  | .makeSlice t l c => match P.underlying t with
    | some (.slice e) => match Zak P e,Xd P e,Zl2 P e,ZC glob l,ZC glob c with
      | some z,some s,some b,some l,some c => bif Nat.beq z.cells.length s && !Nat.beq s 0 then some (.mksl e s b z.cells l c) else none
      | _,_,_,_,_ => none
    | _ => none
  | .slice t x lo hi none => match P.underlying t,ZC glob x,Zf1 glob lo,Zf1 glob hi with
    | some .string,some x,some lo,some hi => some (.slstr x lo hi)
    | some (.slice e),some x,some lo,some hi => (Xd P e).map fun s => .slsl s x lo hi
    | some (.array n e),some x,some lo,some hi => match Xd P e with
      | some s => bif Nat.beq s 0 then none else some (.slarr n s x lo hi)
      | none => none
    | _,_,_,_ => none
  | .fieldAddr t x f => match P.underlying t,ZC glob x with
    | some (.struct fs),some x => match fs[f]? with
      | some f => match Xd P f.type with
        | some s => bif Nat.beq s 0 then none else some (.fa f.offset x)
        | none => none
      | none => none
    | _,_ => none
  | .field t x f => match P.underlying t,ZC glob x with
    | some (.struct fs),some x => match fs[f]? with
      | some f => match Zec P f.type,Xd P f.type with
        | some ag,some s => some (.fld ag f.offset s x)
        | _,_ => none
      | none => none
    | _,_ => none
  | .indexAddr t x i => match P.underlying t,ZC glob x,ZC glob i with
    | some (.array n e),some x,some i => (Xd P e).map fun s => .ixa n s x i
    | some (.slice e),some x,some i => (Xd P e).map fun s => .ixs s x i
    | _,_,_ => none
  | .index t x i => match P.underlying t,ZC glob x,ZC glob i with
    | some (.array n e),some x,some i => match Zec P e,Xd P e with
      | some ag,some s => some (.idxa ag n s x i)
      | _,_ => none
    | some .string,some x,some i => some (.idxs x i)
    | _,_,_ => none
  | .lookup t x k ok => match P.underlying t,ZC glob x,ZC glob k with
    | some (.map kt e),some x,some k => match Zak P e,Zgp P kt with
      | some z,some fl => some (.look fl z x k ok)
      | some z,none => bif U4 P kt then some (.lookV kt z x k ok) else none
      | _,_ => none
    | _,_,_ => none
  | .mapUpdate t m k x | .insert t m k x => match P.underlying t,ZC glob m,ZC glob k,ZC glob x with
    | some (.map kt _),some m,some k,some x => match Zgp P kt with
      | some fl => some (.mset fl m k x)
      | none => bif U4 P kt then some (.msetV kt m k x) else none
    | _,_,_,_ => none
  | .typeAssert x _ t ok => match P.underlying t,Zak P t,ZC glob x with
    | some (.interface _),_,_ => none
    | some _,some z,some x => some (.tas t z x ok)
    | _,_,_ => none
  | .extract x i => (ZC glob x).map (.ext i)
  | .call c => match c.callee with
    | .value f => match ZC glob f,Zg9 glob c.args.toList with
      | some f,some args => some (.call f args)
      | _,_ => none
    | .builtin .recover => none
    | .builtin .append => match c.args.toList,c.argTypes.toList with
      | [s,x],[t,u] => bif Nat.beq t u then match P.underlying t with
          | some (.slice e) => match Xd P e,Zl2 P e,Zak P e,ZC glob s,ZC glob x with
            | some n,some b,some z,some s,some x => bif Nat.beq z.cells.length n then some (.app e n b s x) else none
            | _,_,_,_,_ => none
          | _ => none
        else match P.underlying t,P.underlying u with
          | some (.slice e),some .string => bif Zh6 P e then (match ZC glob s,ZC glob x with
            | some s,some x => some (.apps e s x)
            | _,_ => none) else none
          | _,_ => none
      | _,_ => none
    | .builtin .len => match c.args.toList,c.argTypes.toList with
      | [x],[t] => match P.underlying t,ZC glob x with
        | some .string,some x => some (.lens x)
        | some (.slice _),some x => some (.len x)
        | some (.map _ _),some x => some (.lenm x)
        | _,_ => none
      | _,_ => none
    | .builtin .copy => match c.args.toList,c.argTypes.toList with
      | [x,y],[t,u] => match P.underlying t,P.underlying u,ZC glob x,ZC glob y with
        | _,_,_,_ => none
      | _,_ => none
    | .builtin .panic => none
    | .builtin b => (Zg9 glob c.args.toList).map (.bi b c.argTypes o.type (c.args.map fun | .const _ => true | _ => false))
    | .invoke _ _ => none
  | .panic x => (ZC glob x).map .panic
  | .defer c => match c.callee,c.args.toList with
    | .value f,[] => (ZC glob f).map .dfr
    | _,_ => none
  | _ => none
def Zjy (ops : List Oper) (o : Oper) : Option (Option (Nat × Bool)) :=
  match o.guard with
  | none => some none
  | some (j,want) => match ops[j]? with
    | some q => match q.dst with
      | some t => some (some (t,want))
      | none => none
    | none => none
def Zfx (N : Nat) : Option Nat → Bool
  | some t => Nat.blt t N
  | none => true
def Zhc (N : Nat) (all : List Oper) : List Oper → Option (List CO)
  | [] => some []
  | o :: r => match Zjy all o,Zp4 P glob o,Zhc N all r with
    | some g,some c,some l => bif Zfx N o.dst then some (⟨o.dst,g,c⟩ :: l) else none
    | _,_,_ => none
def incOf (b : Array Nat) (j : Nat) : List Nat := (List.range j).filter fun i => !(b.getD j 0).testBit i
def Zr (ops : Array Oper) : List (List Nat) := let b := Region.before ops; (List.range ops.size).map (incOf b)
inductive Kind where
  | pure | alloc | load | loud | sto | reads | mreads | bad
def Zq : COp → Kind
  | .ld1 _ | .ldN _ _ | .b2s _ => .load
  | .call .. | .app .. | .apps .. | .mset .. | .msetV .. | .copy .. => .loud
  | .st .. => .sto
  | .dfr _ | .rcv | .panic _ => .bad
  | .look .. | .lookV .. | .lenm _ => .mreads
  | .alloc .. | .box .. | .buildSl .. | .mkmap | .mksl .. | .s2b .. => .alloc
  | .bi .. => .pure
  | _ => .pure
def Wn : Kind → Kind → Bool
  | .bad,_ | _,.bad => false
  | .loud,.loud | .loud,.sto | .sto,.loud | .sto,.sto => false
  | .reads,.loud | .loud,.reads | .reads,.sto | .sto,.reads => false
  | .mreads,.loud | .loud,.mreads => false
  | .alloc,.loud | .alloc,.sto | .alloc,.reads | .alloc,.mreads => false
  | _,_ => true
def Z7y : Option Opd → List Opd
  | none => []
  | some x => [x]
def Zus : COp → List Opd
  | .mv x | .mvs x | .box _ x | .ld1 x | .ldN _ x | .nilCheck x | .un _ x | .cint _ x | .s2b _ x | .b2s x | .conv _ _ x | .iface _ x | .fa _ x | .fld _ _ _ x | .tas _ _ x _ | .ext _ x | .lens x | .len x | .lenm x | .panic x | .dfr x => [x]
  | .pick c x y => [c,x,y]
  | .alloc .. | .mkmap | .rcv => []
  | .build _ ps | .buildSl _ _ _ ps => ps.map fun p => p.2.2
  | .st _ x y | .bin _ _ _ _ x y | .mksl _ _ _ _ x y | .ixa _ _ x y | .ixs _ x y | .idxa _ _ _ x y | .idxs x y | .look _ _ x y _ | .lookV _ _ x y _ | .app _ _ _ x y | .apps _ x y | .copy _ x y => [x,y]
  | .mkf _ xs ys => xs ++ ys
  | .slstr x lo hi | .slsl _ x lo hi | .slarr _ _ x lo hi => x :: (Z7y lo ++ Z7y hi)
  | .mset _ x y z | .msetV _ x y z => [x,y,z]
  | .call f xs => f :: xs
  | .bi _ _ _ _ xs => xs
def Zoj : List Opd → List Nat
  | [] => []
  | .t n :: r => n :: Zoj r
  | .d _ :: r => Zoj r
def Ze5 (o : CO) : List Nat := Zoj (Zus o.op) ++ (match o.guard with
  | some (t,_) => [t]
  | none => [])
def Zh7 (x y : CO) : Bool :=
  (match x.dst with
  | some d => !Ya d (Ze5 y) && (match y.dst with
    | some e => !Nat.beq d e
    | none => true)
  | none => true) && (match y.dst with
  | some d => !Ya d (Ze5 x)
  | none => true)
def below (inc : List (List Nat)) (i j : Nat) (o : Oper) : Bool :=
  o.after.toList.any fun e => Region.binds .any e && (Nat.beq e.on i || (Nat.blt e.on j && Nat.blt i e.on && !Ya i (inc.getD e.on [])))
def Zoh (l : List CO) (inc : List (List Nat)) (i j : Nat) (o : Oper) : Bool :=
  match l[i]?,l[j]? with
  | some x,some y => bif Ya i (inc.getD j []) then Wn (Zq x.op) (Zq y.op) && Zh7 x y else below inc i j o
  | _,_ => false
def Zei (ops : List Oper) (l : List CO) (inc : List (List Nat)) : Bool :=
  ops.zipIdx.all fun p => (p.1.after.toList.all fun e => !Region.binds .any e || Nat.blt e.on p.2) && (List.range p.2).all fun i => Zoh l inc i p.2 p.1
def Zkx (iv : List Nat) (i : Nat) : Nat := iv.getD i i
def Zsa (iv : List Nat) (e : Edge) : Edge := { e with on := Zkx iv e.on }
def Zn2 (iv : List Nat) (o : Oper) : Oper := { o with after := o.after.map (Zsa iv),guard := o.guard.map fun p => (Zkx iv p.1,p.2) }
def Zfp (pm iv : List Nat) (ops : Array Oper) : Array Oper := (pm.map fun i => Zn2 iv (ops.getD i default)).toArray
def Wf (pm iv : List Nat) (n : Nat) : Bool := Nat.beq pm.length n && Nat.beq iv.length n && (List.range n).all fun k => Nat.beq (iv.getD (pm.getD k n) n) k && Nat.beq (pm.getD (iv.getD k n) n) k
def readyL (ops : List Oper) (done : List Nat) : List Nat :=
  (ops.zipIdx.filter fun p => !Ya p.2 done && p.1.after.toList.all fun e => !Region.binds .any e || Ya e.on done).map (·.2)
def Z4c (o : Oper) : Bool :=
  match Zp4 P glob o with
  | some q => match Zq q with
    | .alloc => true
    | _ => false
  | none => false
def Zwz (mk : List Nat) (ops : List Oper) : Nat → List Nat → List Nat
  | 0,done => done.reverse
  | f + 1,done => let r := readyL ops done
    match r.filter fun i => !Ya i mk with
    | i :: _ => Zwz mk ops f (i :: done)
    | [] => match r with
      | i :: _ => Zwz mk ops f (i :: done)
      | [] => done.reverse
def Zkb (ops : List Oper) : List Nat := Zwz ((ops.zipIdx.filter fun p => Z4c P glob p.1).map (·.2)) ops ops.length []
def Z4u (pm : List Nat) (n : Nat) : List Nat := (List.range n).map fun i => pm.idxOf i
variable (N : Nat) (back : Option (Bool × Nat × List Nat))
def Zgy (ops : Array Oper) : Option CC :=
  match Zhc P glob N ops.toList ops.toList with
  | some l => let inc := Zr ops; bif Zei ops.toList l inc then some (.draw inc l) else none
  | none => none
def ctry (ops : Array Oper) : Option CC :=
  match Zgy P glob N ops with
  | some c => some c
  | none => let pm := Zkb P glob ops.toList
    let iv := Z4u pm ops.size
    bif Wf pm iv ops.size then Zgy P glob N (Zfp pm iv ops) else none
def ZJ : Code → Option CC
  | .skip | .label _ => some .skip
  | .region _ ops d => bif d then ctry P glob N ops else match Zhc P glob N ops.toList ops.toList with
    | some l => some (.ops l)
    | none => none
  | .seq a b => match ZJ a,ZJ b with
    | some a,some b => some (.seq a b)
    | _,_ => none
  | .cond c a b => match ZC glob c,ZJ a,ZJ b with
    | some c,some a,some b => some (.cond c a b)
    | _,_,_ => none
  | .block id c => (ZJ c).map (.block id)
  | .loop c => (ZJ c).map .loop
  | .scope c => none
  | .exit id => some (.exit id)
  | .ret => some .ret
  | .rangeFunc f ps assign body => match ZC glob f,ps.toList,ZJ assign,ZJ body with
    | some f,[x,y],some assign,some body => match back with
      | some (ag,size,gs) => bif Nat.blt x N && Nat.blt y N then some (.back ag size gs f x y assign body) else none
      | none => none
    | _,_,_,_ => none
  | .goto _ => none
  | .refuse _ => some .stop
def Zxv : List ResultVar → Option (List CRes)
  | [] => some []
  | r :: rs => match (match r with
      | .tmp t => some (CRes.t t)
      | .cell a t => match Zec P t,Xd P t with
        | some true,some n => some (.cN a n)
        | some false,some _ => some (.c1 a)
        | _,_ => none),Zxv rs with
    | some c,some l => some (c :: l)
    | _,_ => none
def Z89 (fn : Func) : Option (Option Nat × CC) :=
  match fn.body with
  | some (.seq (.region _ ops d) rest) => match ops.toList with
    | [o] => match o.op,o.guard with
      | .call c,none => match c.callee,c.args.toList with
        | .builtin .recover,[] => bif !d && Zfx fn.ntmps o.dst && fn.results.isEmpty then (ZJ P glob fn.ntmps none rest).map fun c => (o.dst,c) else none
        | _,_ => none
      | _,_ => none
    | _ => none
  | _ => none
def cfn (fn : Func) : Option CFn :=
  match fn.body with
  | some c => match Zxv P fn.results.toList,ZJ P glob fn.ntmps back c with
    | some r,some c => some ⟨r,c⟩
    | _,_ => none
  | none => none
end
end
end Go.Abs
