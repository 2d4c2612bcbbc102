/- A program's operations, with what their types tell. -/
import Derived.Test.YtlkjicigmhhjbaaGreatDoorNdRun
set_option linter.unusedVariables false
set_option linter.unusedSimpArgs false
namespace Go.Abs
noncomputable section
section
variable (P : Program) (glob : Nat → Option (List D))
def Zb5 (t : TypeId) : Option Bool :=
  match P.underlying t with
  | some (.struct _) | some (.array _ _) => some true
  | some _ => some false
  | none => none
def VK (t : TypeId) : Option D :=
  match P.info? t with
  | some i => match i.zero with
    | some v => some (.of v)
    | none => none
  | none => none
def Xk (t : TypeId) : Option Nat := (P.info? t).map (·.size)
def Zl6 (t : TypeId) : Option Nat := (P.info? t).map (·.bytes)
def Y7 (x : Operand) : Option Opd :=
  match x with
  | .tmp t => some (.t t)
  | .const v => some (.d (.of v))
  | .global g => match glob g with
    | some cs => some (.d (.ep cs))
    | none => none
  | .func f => some (.d (.v (.func (.func f) #[] #[])))
def Zft : List Operand → Option (List Opd)
  | [] => some []
  | x :: r => match Y7 glob x, Zft r with
    | some y, some l => some (y :: l)
    | _, _ => none
def Zd6 (x : Option Operand) : Option (Option Opd) :=
  match x with
  | none => some none
  | some x => match Y7 glob x with
    | some y => some (some y)
    | none => none
def Zdk (place : Nat → Option (Nat × Nat)) : List (Nat × Operand) → Option (List (Nat × Nat × Opd))
  | [] => some []
  | (i, x) :: r => match place i, Y7 glob x, Zdk place r with
    | some (off, size), some y, some l => some ((off, size, y) :: l)
    | _, _, _ => none
def Zqg (fs : List Field) : Bool := fs.all fun f => (Xk P f.type).isSome
def Zfg (t : TypeId) : Option Nat :=
  match P.underlying t with
  | some (.int _) => some 0
  | some .string => some 1
  | some .bool => some 2
  | _ => none
def Zg1 (e : TypeId) : Bool :=
  match P.info? e with
  | some i => Nat.beq i.size 1 && Nat.beq i.bytes 1 && (match i.zero with
    | some (.int .u8 0) => true
    | _ => false)
  | none => false
def V0 (t : TypeId) : Bool :=
  match P.underlying t with
  | some (.struct _) => true
  | _ => false
def Zrd (o : Oper) : Option COp :=
  match o.op with
  | .move x | .assign x => (Y7 glob x).map .mv
  | .pick c a b => match Y7 glob c, Y7 glob a, Y7 glob b with
    | some c, some a, some b => some (.pick c a b)
    | _, _, _ => none
  | .alloc t => (VK P t).map fun z => .alloc t z.cells
  | .box t x => (Y7 glob x).map (.box t)
  | .build t parts => match VK P t, P.underlying t with
    | some z, some (.struct fs) => bif Zqg P fs.toList then
        (Zdk glob (fun i => (fs[i]?).bind fun f => (Xk P f.type).map fun s => (f.offset, s)) parts.toList).map (.build z.cells)
      else none
    | some z, some (.array _ e) => match Xk P e with
      | some s => (Zdk glob (fun i => some (i * s, s)) parts.toList).map (.build z.cells)
      | none => none
    | _, _ => none
  | .buildSlice t len parts => match P.underlying t with
    | some (.slice e) => match VK P e, Xk P e with
      | some z, some s => bif Nat.beq z.cells.length s && !Nat.beq s 0 && Nat.ble (len * s) 16777216 then
          (Zdk glob (fun i => some (i * s, s)) parts.toList).map (.buildSl e len (repeatL z.cells len))
        else none
      | _, _ => none
    | _ => none
  | .load t a => match Zb5 P t, Xk P t, Y7 glob a with
    | some true, some n, some a => some (.ldN n a)
    | some false, some _, some a => some (.ld1 a)
    | _, _, _ => none
  | .store t a x => match Xk P t, Y7 glob a, Y7 glob x with
    | some n, some a, some x => some (.st n a x)
    | _, _, _ => none
  | .nilCheck x => (Y7 glob x).map .nilCheck
  | .binOp op t x y _ => match Y7 glob x, Y7 glob y with
    | some a, some b => some (.bin op t x y a b)
    | _, _ => none
  | .unOp op _ x => (Y7 glob x).map (.un op)
  | .convert s t x => match P.underlying s, P.underlying t, Y7 glob x with
    | some (.int _), some (.int k), some x => some (.cint k x)
    | some .string, some .string, some x => some (.mvs x)
    | some .string, some (.slice e), some x => match P.underlying e with
      | some (.int .u8) => some (.s2b e x)
      | _ => none
    | some (.slice e), some .string, some x => match P.underlying e with
      | some (.int .u8) => some (.b2s x)
      | _ => none
    | _, _, some x => some (.conv s t x)
    | _, _, _ => none
  | .makeInterface t x => match P.underlying t with
    | some (.interface _) => none
    | some _ => (Y7 glob x).map (.iface t)
    | none => none
  | .makeFunc fn a b => match Zft glob a.toList, Zft glob b.toList with
    | some a, some b => some (.mkf fn a b)
    | _, _ => none
  | .makeMap _ none => some .mkmap
  | .makeSlice t l c => match P.underlying t with
    | some (.slice e) => match VK P e, Xk P e, Zl6 P e, Y7 glob l, Y7 glob c with
      | some z, some s, some b, some l, some c => bif Nat.beq z.cells.length s && !Nat.beq s 0 then some (.mksl e s b z.cells l c) else none
      | _, _, _, _, _ => none
    | _ => none
  | .slice t x lo hi none => match P.underlying t, Y7 glob x, Zd6 glob lo, Zd6 glob hi with
    | some .string, some x, some lo, some hi => some (.slstr x lo hi)
    | some (.slice e), some x, some lo, some hi => (Xk P e).map fun s => .slsl s x lo hi
    | some (.array n e), some x, some lo, some hi => match Xk P e with
      | some s => bif Nat.beq s 0 then none else some (.slarr n s x lo hi)
      | none => none
    | _, _, _, _ => none
  | .fieldAddr t x f => match P.underlying t, Y7 glob x with
    | some (.struct fs), some x => match fs[f]? with
      | some f => match Xk P f.type with
        | some s => bif Nat.beq s 0 then none else some (.fa f.offset x)
        | none => none
      | none => none
    | _, _ => none
  | .field t x f => match P.underlying t, Y7 glob x with
    | some (.struct fs), some x => match fs[f]? with
      | some f => match Zb5 P f.type, Xk P f.type with
        | some ag, some s => some (.fld ag f.offset s x)
        | _, _ => none
      | none => none
    | _, _ => none
  | .indexAddr t x i => match P.underlying t, Y7 glob x, Y7 glob i with
    | some (.array n e), some x, some i => (Xk P e).map fun s => .ixa n s x i
    | some (.slice e), some x, some i => (Xk P e).map fun s => .ixs s x i
    | _, _, _ => none
  | .index t x i => match P.underlying t, Y7 glob x, Y7 glob i with
    | some (.array n e), some x, some i => match Zb5 P e, Xk P e with
      | some ag, some s => some (.idxa ag n s x i)
      | _, _ => none
    | some .string, some x, some i => some (.idxs x i)
    | _, _, _ => none
  | .lookup t x k ok => match P.underlying t, Y7 glob x, Y7 glob k with
    | some (.map kt e), some x, some k => match VK P e, Zfg P kt with
      | some z, some fl => some (.look fl z x k ok)
      | some z, none => bif V0 P kt then some (.lookV kt z x k ok) else none
      | _, _ => none
    | _, _, _ => none
  | .mapUpdate t m k x | .insert t m k x => match P.underlying t, Y7 glob m, Y7 glob k, Y7 glob x with
    | some (.map kt _), some m, some k, some x => match Zfg P kt with
      | some fl => some (.mset fl m k x)
      | none => bif V0 P kt then some (.msetV kt m k x) else none
    | _, _, _, _ => none
  | .typeAssert x _ t ok => match P.underlying t, VK P t, Y7 glob x with
    | some (.interface _), _, _ => none
    | some _, some z, some x => some (.tas t z x ok)
    | _, _, _ => none
  | .extract x i => (Y7 glob x).map (.ext i)
  | .call c => match c.callee with
    | .value f => match Y7 glob f, Zft glob c.args.toList with
      | some f, some args => some (.call f args)
      | _, _ => none
    | .builtin .recover => none
    | .builtin .append => match c.args.toList, c.argTypes.toList with
      | [s, x], [t, u] => bif Nat.beq t u then match P.underlying t with
          | some (.slice e) => match Xk P e, Zl6 P e, VK P e, Y7 glob s, Y7 glob x with
            | some n, some b, some z, some s, some x => bif Nat.beq z.cells.length n then some (.app e n b s x) else none
            | _, _, _, _, _ => none
          | _ => none
        else match P.underlying t, P.underlying u with
          | some (.slice e), some .string => bif Zg1 P e then (match Y7 glob s, Y7 glob x with
            | some s, some x => some (.apps e s x)
            | _, _ => none) else none
          | _, _ => none
      | _, _ => none
    | .builtin .len => match c.args.toList, c.argTypes.toList with
      | [x], [t] => match P.underlying t, Y7 glob x with
        | some .string, some x => some (.lens x)
        | some (.slice _), some x => some (.len x)
        | some (.map _ _), some x => some (.lenm x)
        | _, _ => none
      | _, _ => none
    | .builtin .copy => match c.args.toList, c.argTypes.toList with
      | [x, y], [t, u] => match P.underlying t, P.underlying u, Y7 glob x, Y7 glob y with
        | _, _, _, _ => none
      | _, _ => none
    | .builtin .panic => none
    | .builtin b => (Zft glob c.args.toList).map (.bi b c.argTypes o.type (c.args.map fun | .const _ => true | _ => false))
    | .invoke _ _ => none
  | .panic x => (Y7 glob x).map .panic
  | .defer c => match c.callee, c.args.toList with
    | .value f, [] => (Y7 glob f).map .dfr
    | _, _ => none
  | _ => none
def Zjo (ops : List Oper) (o : Oper) : Option (Option (Nat × Bool)) :=
  match o.guard with
  | none => some none
  | some (j, want) => match ops[j]? with
    | some q => match q.dst with
      | some t => some (some (t, want))
      | none => none
    | none => none
def Zd2 (N : Nat) : Option Nat → Bool
  | some t => Nat.blt t N
  | none => true
def Zfx (N : Nat) (all : List Oper) : List Oper → Option (List CO)
  | [] => some []
  | o :: r => match Zjo all o, Zrd P glob o, Zfx N all r with
    | some g, some c, some l => bif Zd2 N o.dst then some (⟨o.dst, g, c⟩ :: l) else none
    | _, _, _ => none
def incOf (b : Array Nat) (j : Nat) : List Nat := (List.range j).filter fun i => !(b.getD j 0).testBit i
def incs (ops : Array Oper) : List (List Nat) := let b := Region.before ops; (List.range ops.size).map (incOf b)
inductive Kind where
  | pure | alloc | load | loud | sto | reads | mreads | bad
def ZY : COp → Kind
  | .ld1 _ | .ldN _ _ | .b2s _ => .load
  | .call .. | .app .. | .apps .. | .mset .. | .msetV .. | .copy .. => .loud
  | .st .. => .sto
  | .dfr _ | .rcv | .panic _ => .bad
  | .look .. | .lookV .. | .lenm _ => .mreads
  | .alloc .. | .box .. | .buildSl .. | .mkmap | .mksl .. | .s2b .. => .alloc
  | .bi .. => .pure
  | _ => .pure
def Wa : Kind → Kind → Bool
  | .bad, _ | _, .bad => false
  | .loud, .loud | .loud, .sto | .sto, .loud | .sto, .sto => false
  | .reads, .loud | .loud, .reads | .reads, .sto | .sto, .reads => false
  | .mreads, .loud | .loud, .mreads => false
  | .alloc, .loud | .alloc, .sto | .alloc, .reads | .alloc, .mreads => false
  | _, _ => true
def oOpt : Option Opd → List Opd
  | none => []
  | some x => [x]
def Zv3 : COp → List Opd
  | .mv x | .mvs x | .box _ x | .ld1 x | .ldN _ x | .nilCheck x | .un _ x | .cint _ x | .s2b _ x | .b2s x | .conv _ _ x | .iface _ x | .fa _ x | .fld _ _ _ x | .tas _ _ x _ | .ext _ x | .lens x | .len x | .lenm x | .panic x | .dfr x => [x]
  | .pick c x y => [c, x, y]
  | .alloc .. | .mkmap | .rcv => []
  | .build _ ps | .buildSl _ _ _ ps => ps.map fun p => p.2.2
  | .st _ x y | .bin _ _ _ _ x y | .mksl _ _ _ _ x y | .ixa _ _ x y | .ixs _ x y | .idxa _ _ _ x y | .idxs x y | .look _ _ x y _ | .lookV _ _ x y _ | .app _ _ _ x y | .apps _ x y | .copy _ x y => [x, y]
  | .mkf _ xs ys => xs ++ ys
  | .slstr x lo hi | .slsl _ x lo hi | .slarr _ _ x lo hi => x :: (oOpt lo ++ oOpt hi)
  | .mset _ x y z | .msetV _ x y z => [x, y, z]
  | .call f xs => f :: xs
  | .bi _ _ _ _ xs => xs
def Zph : List Opd → List Nat
  | [] => []
  | .t n :: r => n :: Zph r
  | .d _ :: r => Zph r
def Zdd (o : CO) : List Nat := Zph (Zv3 o.op) ++ (match o.guard with
  | some (t, _) => [t]
  | none => [])
def Zg3 (x y : CO) : Bool :=
  (match x.dst with
  | some d => !YR d (Zdd y) && (match y.dst with
    | some e => !Nat.beq d e
    | none => true)
  | none => true) && (match y.dst with
  | some d => !YR d (Zdd x)
  | none => true)
def below (inc : List (List Nat)) (i j : Nat) (o : Oper) : Bool :=
  o.after.toList.any fun e => Region.binds .any e && (Nat.beq e.on i || (Nat.blt e.on j && Nat.blt i e.on && !YR i (inc.getD e.on [])))
def Zpf (l : List CO) (inc : List (List Nat)) (i j : Nat) (o : Oper) : Bool :=
  match l[i]?, l[j]? with
  | some x, some y => bif YR i (inc.getD j []) then Wa (ZY x.op) (ZY y.op) && Zg3 x y else below inc i j o
  | _, _ => false
def Zcd (ops : List Oper) (l : List CO) (inc : List (List Nat)) : Bool :=
  ops.zipIdx.all fun p => (p.1.after.toList.all fun e => !Region.binds .any e || Nat.blt e.on p.2) && (List.range p.2).all fun i => Zpf l inc i p.2 p.1
def Zk9 (iv : List Nat) (i : Nat) : Nat := iv.getD i i
def Zs4 (iv : List Nat) (e : Edge) : Edge := { e with on := Zk9 iv e.on }
def Zo5 (iv : List Nat) (o : Oper) : Oper := { o with after := o.after.map (Zs4 iv), guard := o.guard.map fun p => (Zk9 iv p.1, p.2) }
def Zdt (pm iv : List Nat) (ops : Array Oper) : Array Oper := (pm.map fun i => Zo5 iv (ops.getD i default)).toArray
def XG (pm iv : List Nat) (n : Nat) : Bool := Nat.beq pm.length n && Nat.beq iv.length n && (List.range n).all fun k => Nat.beq (iv.getD (pm.getD k n) n) k && Nat.beq (pm.getD (iv.getD k n) n) k
def readyL (ops : List Oper) (done : List Nat) : List Nat :=
  (ops.zipIdx.filter fun p => !YR p.2 done && p.1.after.toList.all fun e => !Region.binds .any e || YR e.on done).map (·.2)
def Z5p (o : Oper) : Bool :=
  match Zrd P glob o with
  | some q => match ZY q with
    | .alloc => true
    | _ => false
  | none => false
def Zyc (mk : List Nat) (ops : List Oper) : Nat → List Nat → List Nat
  | 0, done => done.reverse
  | f + 1, done => let r := readyL ops done
    match r.filter fun i => !YR i mk with
    | i :: _ => Zyc mk ops f (i :: done)
    | [] => match r with
      | i :: _ => Zyc mk ops f (i :: done)
      | [] => done.reverse
def Zkg (ops : List Oper) : List Nat := Zyc ((ops.zipIdx.filter fun p => Z5p P glob p.1).map (·.2)) ops ops.length []
def Z5y (pm : List Nat) (n : Nat) : List Nat := (List.range n).map fun i => pm.idxOf i
variable (N : Nat) (back : Option (Bool × Nat × List Nat))
def Zfl (ops : Array Oper) : Option CC :=
  match Zfx P glob N ops.toList ops.toList with
  | some l => let inc := incs ops; bif Zcd ops.toList l inc then some (.draw inc l) else none
  | none => none
def ctry (ops : Array Oper) : Option CC :=
  match Zfl P glob N ops with
  | some c => some c
  | none => let pm := Zkg P glob ops.toList
    let iv := Z5y pm ops.size
    bif XG pm iv ops.size then Zfl P glob N (Zdt pm iv ops) else none
def Yk : Code → Option CC
  | .skip | .label _ => some .skip
  | .region _ ops d => bif d then ctry P glob N ops else match Zfx P glob N ops.toList ops.toList with
    | some l => some (.ops l)
    | none => none
  | .seq a b => match Yk a, Yk b with
    | some a, some b => some (.seq a b)
    | _, _ => none
  | .cond c a b => match Y7 glob c, Yk a, Yk b with
    | some c, some a, some b => some (.cond c a b)
    | _, _, _ => none
  | .block id c => (Yk c).map (.block id)
  | .loop c => (Yk c).map .loop
  | .scope c => none
  | .exit id => some (.exit id)
  | .ret => some .ret
  | .rangeFunc f ps assign body => match Y7 glob f, ps.toList, Yk assign, Yk body with
    | some f, [x, y], some assign, some body => match back with
      | some (ag, size, gs) => bif Nat.blt x N && Nat.blt y N then some (.back ag size gs f x y assign body) else none
      | none => none
    | _, _, _, _ => none
  | .goto _ => none
  | .refuse _ => some .stop
def Zy4 : List ResultVar → Option (List CRes)
  | [] => some []
  | r :: rs => match (match r with
      | .tmp t => some (CRes.t t)
      | .cell a t => match Zb5 P t, Xk P t with
        | some true, some n => some (.cN a n)
        | some false, some _ => some (.c1 a)
        | _, _ => none), Zy4 rs with
    | some c, some l => some (c :: l)
    | _, _ => none
def cdfr (fn : Func) : Option (Option Nat × CC) :=
  match fn.body with
  | some (.seq (.region _ ops d) rest) => match ops.toList with
    | [o] => match o.op, o.guard with
      | .call c, none => match c.callee, c.args.toList with
        | .builtin .recover, [] => bif !d && Zd2 fn.ntmps o.dst && fn.results.isEmpty then (Yk P glob fn.ntmps none rest).map fun c => (o.dst, c) else none
        | _, _ => none
      | _, _ => none
    | _ => none
  | _ => none
def cfn (fn : Func) : Option CFn :=
  match fn.body with
  | some c => match Zy4 P fn.results.toList, Yk P glob fn.ntmps back c with
    | some r, some c => some ⟨r, c⟩
    | _, _ => none
  | none => none
end
end
end Go.Abs
