/- What reading comes to, by a description that is known: plainly. -/
import Derived.Test.YthifolidfjpdkaaGreatDoorReA
import Derived.Test.YthifolidfjpdkaaGreatDoorNdLib
set_option linter.unusedVariables false
set_option linter.unusedSimpArgs false
namespace Go.Abs
noncomputable section
namespace Run
structure XE where
  k : Nat
  op : List Nat
  n : Nat
  nm : List Nat
  kids : List Nat
structure XC where
  n : Nat
  ty : Nat
structure XT' where
  k : Nat
  size : Nat
  lit : Bool
  nm : List Nat
  ex : Int
  inn : Int
  cs : List XC
structure XI where
  nm : List Nat
  ty : Nat
  der : Nat
  a : List Nat
  b : List Nat
  wh : Int
structure XS where
  nm : List Nat
  is : List XI
structure XF where
  ss : List XS
  es : List XE
  ts : List XT'
abbrev Ev := List (List Nat × Nat)
def Zi7 (s : List Nat) : Ev → Option Nat
  | [] => none
  | (x,n) :: r => match Zi7 s r with
    | some m => some m
    | none => if x = s then some n else none
def Z9d (b : Bool) : Nat := if b then 1 else 0
def Zm1 (op : List Nat) (a b : Nat) : Option Bool :=
  if op = [61,61] then some (decide (a = b)) else if op = [60] then some (decide (a < b)) else if op = [60,61] then some (!decide (b < a)) else if op = [62] then some (decide (b < a)) else none
def opS (op : List Nat) (a b : Nat) : Nat × Nat :=
  match Zm1 op a b with
  | some u => (Z9d u,0)
  | none => (0,99)
def Zhe (es : List XE) (env : Ev) : Nat → Nat → Nat × Nat
  | 0,_ => (0,99)
  | f + 1,a => match es[a]? with
    | none => (0,99)
    | some x =>
      if x.k = 0 then (x.n,0)
      else if x.k = 1 then (match Zi7 x.nm env with
        | some n => (n,0)
        | none => (0,11))
      else if x.k = 3 then (match x.kids with
        | [i,j] => let u := Zhe es env f i
          if u.2 = 0 then (let v := Zhe es env f j
            if v.2 = 0 then opS x.op u.1 v.1 else v) else u
        | _ => (0,99))
      else (0,99)
def Zk8 (F : XF) (env : Ev) (a : Int) : Nat × Nat :=
  match a with
  | .ofNat a => Zhe F.es env (a + 1) a
  | _ => (0,99)
inductive RO (α : Type) where
  | ok (a : α) (p n : Nat)
  | err (p e : Nat)
  | oof
def RO.bind {α β : Type} (x : RO α) (f : α → Nat → Nat → RO β) : RO β :=
  match x with
  | .ok a p n => f a p n
  | .err p e => .err p e
  | .oof => .oof
def V.n : V → Nat
  | .mk _ n _ _ => n
def V.l : V → List V
  | .mk _ _ _ l => l
def VT {α : Type} (a : α) (p n : Nat) : RO α := if n ≥ 1048576 then .err p 10 else .ok a p (n + 1)
def Zwg : List Nat → Nat → Nat
  | [],n => n
  | b :: r,n => Zwg r (n * 256 + b)
def Zmy (lit : Bool) (b : List Nat) : Nat := Zwg (if lit then b.reverse else b) 0
def sub (inp : List Nat) (p k : Nat) : List Nat := (inp.drop p).take k
def Zdb {α : Type} (F : XF) (env : Ev) (a : Int) (p : Nat) (k : Nat → RO α) : RO α :=
  let u := Zk8 F env a
  if u.2 = 0 then k u.1 else if u.2 = 99 then .oof else .err p u.2
def Zm2 (g : Nat → Nat → RO V) : Nat → List V → Nat → Nat → RO (List V)
  | 0,out,p,n => .ok out p n
  | k + 1,out,p,n => (g p n).bind fun v p n => Zm2 g k (out ++ [v]) p n
def Zg4 (g : Nat → Nat → RO V) (e : Nat) : Nat → List V → Nat → Nat → RO (List V)
  | 0,_,_,_ => .oof
  | k + 1,out,p,n => if p < e then (g p n).bind fun v p' n => if p' = p then .err p 14 else Zg4 g e k (out ++ [v]) p' n else .ok out p n
abbrev Al := List (List Nat × Nat × Nat × V)
def WJ (s : List Nat) : Al → Nat × Nat × V
  | [] => (0,0,Zit)
  | (x,a) :: r => if x = s then a else WJ s r
def Zmt (s : List Nat) : Al → Bool
  | [] => false
  | (x,a) :: r => if x = s then true else Zmt s r
def Zmq (n : Nat) : List XC → Option Nat
  | [] => none
  | c :: r => if c.n = n then some c.ty else Zmq n r
def Zkh (s : List Nat) : List XS → Option XS
  | [] => none
  | x :: r => if x.nm = s then some x else Zkh s r
def Zg6 (F : XF) (a : Nat) : Bool :=
  match F.ts[a]? with
  | some t => decide (t.k = 0)
  | none => false
abbrev Zm3 := List Nat → Nat
section
variable (F : XF) (crc : Zm3) (inp : List Nat)
def UL (kind : Nat → Ev → Nat → Nat → Nat → RO V) (y : XI) (e : Nat) (env : Ev) (al : Al) (p n : Nat) : RO (V × Ev × Al) :=
  if Zmt y.nm al then .oof else
  (kind y.ty env p e n).bind fun v q n =>
    let al' := al ++ [(y.nm,p,q,v)]
    let env' := if Zg6 F y.ty then env ++ [(y.nm,v.n)] else env
    let w : RO (V × Ev × Al) := match y.wh with
      | .ofNat a => let u := Zk8 F env' (.ofNat a)
        if u.2 = 0 then (if u.1 = 0 then .err p 22 else .ok (v,env',al') q n) else .oof
      | _ => .ok (v,env',al') q n
    if y.der = 3 then (let a := WJ y.a al'; let b := WJ y.b al'
      if a.1 ≤ b.2.1 then (if v.n = crc (sub inp a.1 (b.2.1 - a.1)) then w else .err p 9) else .oof)
    else if y.der ≤ 2 then w else .oof
def Yh (kind : Nat → Ev → Nat → Nat → Nat → RO V) (e : Nat) : List XI → Ev → Al → List V → Nat → Nat → RO (List V × Al)
  | [],env,al,out,p,n => .ok (out,al) p n
  | y :: r,env,al,out,p,n => (UL F crc inp kind y e env al p n).bind fun x p n => Yh kind e r x.2.1 x.2.2 (out ++ [x.1]) p n
def Zbm (al : Al) : List XI → Option Nat
  | [] => none
  | y :: r => let o := WJ y.nm al; let a := WJ y.a al
    if (y.der = 1 ∧ o.2.2.n ≠ a.2.1 - a.1) ∨ (y.der = 2 ∧ o.2.2.n ≠ a.2.2.l.length) then some o.1 else Zbm al r
def WT (kind : Nat → Ev → Nat → Nat → Nat → RO V) (s : XS) (p e n : Nat) : RO V :=
  (VT () p n).bind fun _ p n => (Yh F crc inp kind e s.is [] [] [] p n).bind fun x p n => match Zbm x.2 s.is with
    | some q => .err q 9
    | none => .ok (Zy4 x.1) p n
def Zck (f : Nat) (kind : Nat → Ev → Nat → Nat → Nat → RO V) (a : Nat) (env : Ev) (p e n : Nat) : RO V :=
  match F.ts[a]? with
    | none => .oof
    | some t =>
      if t.k = 0 then (if t.size > e - p then .err p 20 else VT (UW (Zmy t.lit (sub inp p t.size))) (p + t.size) n)
      else if t.k = 1 then Zdb F env t.ex p fun k => if k > e - p then .err p 20 else VT (mkB (sub inp p k)) (p + k) n
      else if t.k = 2 then Zdb F env t.ex p fun k => if k > e - p then .err p 20 else if (sub inp p k).all (· == 0) then VT Zit (p + k) n else .oof
      else if t.k = 3 then Zdb F env t.ex p fun k => if k > e - p then .err p 20 else VT Zit (p + k) n
      else if t.k = 4 then VT (mkB (sub inp p (e - p))) e n
      else if t.k = 5 then Zdb F env t.ex p fun k => if k > 65536 then .err p 10 else (VT () p n).bind fun _ p n => (Zm2 (fun p n => kind t.inn.toNat env p e n) k [] p n).bind fun l p n => .ok (Zpt l) p n
      else if t.k = 6 then (VT () p n).bind fun _ p n => (Zg4 (fun p n => kind t.inn.toNat env p e n) e f [] p n).bind fun l p n => .ok (Zpt l) p n
      else if t.k = 7 then Zdb F env t.ex p fun k => if k > e - p then .err p 20 else (kind t.inn.toNat env p (p + k) n).bind fun v q n => if q = p + k then .ok v q n else .err q 21
      else if t.k = 8 then Zdb F env t.ex p fun k => if k > inp.length then .err p 20 else (kind t.inn.toNat env k inp.length n).bind fun v _ n => .ok v p n
      else if t.k = 9 then Zdb F env t.ex p fun k => match Zmq k t.cs with
        | some c => kind c env p e n
        | none => match t.inn with
          | .ofNat i => kind i env p e n
          | _ => .err p 24
      else if t.k = 10 then (match Zkh t.nm F.ss with
        | some s => WT F crc inp kind s p e n
        | none => .oof)
      else if t.k = 11 then VT Zit p n
      else .oof
def Yi : Nat → Nat → Ev → Nat → Nat → Nat → RO V
  | 0,_,_,_,_,_ => .oof
  | f + 1,a,env,p,e,n => Zck F crc inp f (Yi f) a env p e n
def Zj5 (f root : Nat) : RO V :=
  match F.ss[root]? with
  | some s => (WT F crc inp (Yi F crc inp f) s 0 inp.length 0).bind fun v p n => if p = inp.length then .ok v p n else .err p 21
  | none => .oof
end
end Run
end
end Go.Abs
namespace Go.Abs
noncomputable section
namespace Run
def RO.le {α : Type} (x : RO α) (p e L : Nat) : Prop :=
  match x with
  | .ok _ q m => p ≤ q ∧ q ≤ e ∧ m ≤ 1048576
  | .err q _ => q ≤ L
  | .oof => True
theorem RO.bind_le {α β : Type} {x : RO α} {f : α → Nat → Nat → RO β} {p e p' e' L : Nat} (h : x.le p e L) (hf : ∀ a q m,p ≤ q → q ≤ e → m ≤ 1048576 → (f a q m).le p' e' L) : (x.bind f).le p' e' L := by
  cases x with
  | ok a q m => exact hf a q m h.1 h.2.1 h.2.2
  | err q e => exact h
  | oof => trivial
theorem RO.le_mono {α : Type} {x : RO α} {p e p' e' L : Nat} (h : x.le p e L) (h1 : p' ≤ p) (h2 : e ≤ e') : x.le p' e' L := by
  cases x with
  | ok a q m => exact ⟨Nat.le_trans h1 h.1,Nat.le_trans h.2.1 h2,h.2.2⟩
  | err q e => exact h
  | oof => trivial
theorem Zdq {α : Type} {a : α} {p q e n L : Nat} (h1 : p ≤ q) (h2 : q ≤ e) (h3 : e ≤ L) (hn : n ≤ 1048576) : (VT a q n).le p e L := by
  unfold VT
  split
  · show q ≤ L; omega
  · exact ⟨h1,h2,by omega⟩
theorem Zd2 {α : Type} {F : XF} {env : Ev} {a : Int} {p q e L : Nat} {k : Nat → RO α} (hp : p ≤ L) (hk : ∀ m,(k m).le q e L) : (Zdb F env a p k).le q e L := by
  unfold Zdb
  dsimp only
  split
  · exact hk _
  · split
    · trivial
    · exact hp
theorem Zzr {g : Nat → Nat → RO V} {e L : Nat} (hg : ∀ p n,p ≤ e → n ≤ 1048576 → (g p n).le p e L) : ∀ (k : Nat) (out : List V) (p n : Nat),p ≤ e → n ≤ 1048576 → (Zm2 g k out p n).le p e L
  | 0,out,p,n,hp,hn => ⟨Nat.le_refl _,hp,hn⟩
  | k + 1,out,p,n,hp,hn => RO.bind_le (hg p n hp hn) fun a q m h1 h2 h3 => RO.le_mono (Zzr hg k _ q m h2 h3) h1 (Nat.le_refl _)
theorem Zuf {g : Nat → Nat → RO V} {e L : Nat} (heL : e ≤ L) (hg : ∀ p n,p ≤ e → n ≤ 1048576 → (g p n).le p e L) : ∀ (k : Nat) (out : List V) (p n : Nat),p ≤ e → n ≤ 1048576 → (Zg4 g e k out p n).le p e L
  | 0,out,p,n,hp,hn => trivial
  | k + 1,out,p,n,hp,hn => by
    unfold Zg4
    split
    · refine RO.bind_le (hg p n hp hn) fun a q m h1 h2 h3 => ?_
      split
      · show p ≤ L; omega
      · exact RO.le_mono (Zuf heL hg k _ q m h2 h3) h1 (Nat.le_refl _)
    · exact ⟨Nat.le_refl _,hp,hn⟩
section
variable {F : XF} {crc : Zm3} {inp : List Nat}
abbrev Z11 (inp : List Nat) (kind : Nat → Ev → Nat → Nat → Nat → RO V) : Prop := ∀ a env p e n,p ≤ e → e ≤ inp.length → n ≤ 1048576 → (kind a env p e n).le p e inp.length
theorem Zlw {kind : Nat → Ev → Nat → Nat → Nat → RO V} (hk : Z11 inp kind) (y : XI) (e : Nat) (env : Ev) (al : Al) (p n : Nat) (hp : p ≤ e) (he : e ≤ inp.length) (hn : n ≤ 1048576) : (UL F crc inp kind y e env al p n).le p e inp.length := by
  unfold UL
  split
  · trivial
  · refine RO.bind_le (hk _ env p e n hp he hn) fun v q m h1 h2 h3 => ?_
    have hw : ∀ (r : V × Ev × Al),(RO.ok r q m).le p e inp.length := fun r => ⟨h1,h2,h3⟩
    have Zpu : p ≤ inp.length := by omega
    dsimp only
    generalize (if Zg6 F y.ty = true then env ++ [(y.nm,v.n)] else env) = env'
    have hK : ∀ {u : Nat × Nat} {r : V × Ev × Al},(if u.2 = 0 then (if u.1 = 0 then RO.err p 22 else RO.ok r q m) else RO.oof).le p e inp.length := fun {u r} => by
      split
      · split
        · exact Zpu
        · exact hw _
      · trivial
    have hW : ∀ {r : V × Ev × Al},(match y.wh with
      | .ofNat a => let u := Zk8 F env' (.ofNat a)
        if u.2 = 0 then (if u.1 = 0 then RO.err p 22 else RO.ok r q m) else RO.oof
      | _ => RO.ok r q m).le p e inp.length := by
      intro r
      split
      · exact hK
      · exact hw _
    split
    · split
      · split
        · exact hW
        · exact Zpu
      · trivial
    · split
      · exact hW
      · trivial
theorem Zo9 {kind : Nat → Ev → Nat → Nat → Nat → RO V} (hk : Z11 inp kind) (e : Nat) (he : e ≤ inp.length) : ∀ (l : List XI) (env : Ev) (al : Al) (out : List V) (p n : Nat),p ≤ e → n ≤ 1048576 → (Yh F crc inp kind e l env al out p n).le p e inp.length
  | [],env,al,out,p,n,hp,hn => ⟨Nat.le_refl _,hp,hn⟩
  | y :: r,env,al,out,p,n,hp,hn => RO.bind_le (Zlw hk y e env al p n hp he hn) fun a q m h1 h2 h3 => RO.le_mono (Zo9 hk e he r _ _ _ q m h2 h3) h1 (Nat.le_refl _)
def Ziw (L : Nat) (al : Al) : Prop := ∀ x ∈ al,x.2.1 ≤ x.2.2.1 ∧ x.2.2.1 ≤ L
theorem Ziw.get {L : Nat} {s : List Nat} : ∀ {al : Al},Ziw L al → (WJ s al).1 ≤ (WJ s al).2.1 ∧ (WJ s al).2.1 ≤ L
  | [],h => ⟨Nat.le_refl _,Nat.zero_le _⟩
  | (x,a) :: r,h => by
    unfold WJ
    split
    · exact h (x,a) (List.mem_cons_self ..)
    · exact Ziw.get fun y hy => h y (List.mem_cons_of_mem _ hy)
theorem Zre {kind : Nat → Ev → Nat → Nat → Nat → RO V} (hk : Z11 inp kind) {y : XI} {e : Nat} {env : Ev} {al : Al} {p n : Nat} (hp : p ≤ e) (he : e ≤ inp.length) (hn : n ≤ 1048576) (ha : Ziw inp.length al) {x : V × Ev × Al} {q m : Nat} (h : UL F crc inp kind y e env al p n = .ok x q m) : Ziw inp.length x.2.2 := by
  unfold UL at h
  split at h
  · cases h
  have h0 := hk y.ty env p e n hp he hn
  cases hv : kind y.ty env p e n with
  | oof => rw [hv] at h; cases h
  | err a b => rw [hv] at h; cases h
  | ok v q' m' =>
    rw [hv] at h h0
    have hal : Ziw inp.length (al ++ [(y.nm,p,q',v)]) := fun z hz => by
      rcases List.mem_append.1 hz with hz | hz
      · exact ha z hz
      · rw [List.mem_singleton.1 hz]; exact ⟨h0.1,Nat.le_trans h0.2.1 he⟩
    have hok : ∀ {r : V × Ev × Al} {q2 m2 : Nat},(RO.ok r q2 m2 : RO (V × Ev × Al)) = .ok x q m → r.2.2 = al ++ [(y.nm,p,q',v)] → Ziw inp.length x.2.2 := fun h1 h2 => by cases h1; rw [h2]; exact hal
    simp only [RO.bind] at h
    generalize (if Zg6 F y.ty = true then env ++ [(y.nm,v.n)] else env) = env' at h
    have hK : ∀ {u : Nat},(if u = 0 then RO.err p 22 else RO.ok (v,env',al ++ [(y.nm,p,q',v)]) q' m') = .ok x q m → Ziw inp.length x.2.2 := fun h1 => by
      split at h1
      · cases h1
      · exact hok h1 rfl
    split at h
    · split at h
      · split at h
        · split at h
          · split at h
            · exact hK h
            · cases h
          · exact hok h rfl
        · cases h
      · cases h
    · split at h
      · split at h
        · split at h
          · exact hK h
          · cases h
        · exact hok h rfl
      · cases h
theorem Zpa {kind : Nat → Ev → Nat → Nat → Nat → RO V} (hk : Z11 inp kind) {e : Nat} (he : e ≤ inp.length) : ∀ {l : List XI} {env : Ev} {al : Al} {out : List V} {p n : Nat},p ≤ e → n ≤ 1048576 → Ziw inp.length al → ∀ {x : List V × Al} {q m : Nat},Yh F crc inp kind e l env al out p n = .ok x q m → Ziw inp.length x.2
  | [],env,al,out,p,n,hp,hn,ha,x,q,m,h => by cases h; exact ha
  | y :: r,env,al,out,p,n,hp,hn,ha,x,q,m,h => by
    unfold Yh at h
    have h0 := Zlw (F := F) (crc := crc) hk y e env al p n hp he hn
    cases hv : UL F crc inp kind y e env al p n with
    | oof => rw [hv] at h; cases h
    | err a b => rw [hv] at h; cases h
    | ok z q' m' =>
      rw [hv] at h h0
      exact Zpa hk he h0.2.1 h0.2.2 (Zre hk hp he hn ha hv) h
theorem Zts {L : Nat} {al : Al} (ha : Ziw L al) : ∀ {l : List XI} {q : Nat},Zbm al l = some q → q ≤ L
  | [],q,h => by cases h
  | y :: r,q,h => by
    unfold Zbm at h
    dsimp only at h
    split at h
    · cases h
      exact Nat.le_trans ha.get.1 ha.get.2
    · exact Zts ha h
theorem Zww {kind : Nat → Ev → Nat → Nat → Nat → RO V} (hk : Z11 inp kind) (s : XS) {p e n : Nat} (hp : p ≤ e) (he : e ≤ inp.length) (hn : n ≤ 1048576) : (WT F crc inp kind s p e n).le p e inp.length := by
  unfold WT
  refine RO.bind_le (Zdq (p := p) (e := e) (by omega) hp he hn) fun _ q m h1 h2 h3 => ?_
  have h0 := Zo9 (F := F) (crc := crc) hk e he s.is [] [] [] q m h2 h3
  cases hv : Yh F crc inp kind e s.is [] [] [] q m with
  | oof => trivial
  | err a b => rw [hv] at h0; exact h0
  | ok x q' m' =>
    rw [hv] at h0
    have hal := Zpa hk he h2 h3 (fun _ h => by cases h) hv
    show (match Zbm x.2 s.is with
      | some q => RO.err q 9
      | none => .ok (Zy4 x.1) q' m').le p e inp.length
    cases ht : Zbm x.2 s.is with
    | some q => exact Zts hal ht
    | none => exact ⟨Nat.le_trans h1 h0.1,h0.2.1,h0.2.2⟩
theorem Z4r {f : Nat} {kind : Nat → Ev → Nat → Nat → Nat → RO V} (ih : Z11 inp kind) : Z11 inp (Zck F crc inp f kind) := fun a env p e n hp he hn => by
    have Zpu : p ≤ inp.length := by omega
    have hi : ∀ i,(kind i env p e n).le p e inp.length := fun i => ih i env p e n hp he hn
    unfold Zck
    cases F.ts[a]? with
    | none => trivial
    | some t =>
    dsimp only
    by_cases k0 : t.k = 0
    · rw [if_pos k0]
      split
      · exact Zpu
      · exact Zdq (by omega) (by omega) he hn
    rw [if_neg k0]
    by_cases k1 : t.k = 1
    · rw [if_pos k1]
      refine Zd2 Zpu fun k => ?_
      split
      · exact Zpu
      · exact Zdq (by omega) (by omega) he hn
    rw [if_neg k1]
    by_cases k2 : t.k = 2
    · rw [if_pos k2]
      refine Zd2 Zpu fun k => ?_
      split
      · exact Zpu
      · split
        · exact Zdq (by omega) (by omega) he hn
        · trivial
    rw [if_neg k2]
    by_cases k3 : t.k = 3
    · rw [if_pos k3]
      refine Zd2 Zpu fun k => ?_
      split
      · exact Zpu
      · exact Zdq (by omega) (by omega) he hn
    rw [if_neg k3]
    by_cases k4 : t.k = 4
    · rw [if_pos k4]
      exact Zdq hp (by omega) he hn
    rw [if_neg k4]
    by_cases k5 : t.k = 5
    · rw [if_pos k5]
      refine Zd2 Zpu fun k => ?_
      split
      · exact Zpu
      · refine RO.bind_le (Zdq (p := p) (e := e) (by omega) hp he hn) fun _ q m h1 h2 h3 => ?_
        refine RO.bind_le (Zzr (fun p n hp hn => ih _ env p e n hp he hn) k [] q m h2 h3) fun l q' m' h4 h5 h6 => ?_
        exact ⟨by omega,h5,h6⟩
    rw [if_neg k5]
    by_cases k6 : t.k = 6
    · rw [if_pos k6]
      refine RO.bind_le (Zdq (p := p) (e := e) (by omega) hp he hn) fun _ q m h1 h2 h3 => ?_
      refine RO.bind_le (Zuf he (fun p n hp hn => ih _ env p e n hp he hn) f [] q m h2 h3) fun l q' m' h4 h5 h6 => ?_
      exact ⟨by omega,h5,h6⟩
    rw [if_neg k6]
    by_cases k7 : t.k = 7
    · rw [if_pos k7]
      refine Zd2 Zpu fun k => ?_
      split
      · exact Zpu
      · refine RO.bind_le (ih _ env p (p + k) n (by omega) (by omega) hn) fun v q m h1 h2 h3 => ?_
        split
        · exact ⟨h1,by omega,h3⟩
        · show q ≤ _; omega
    rw [if_neg k7]
    by_cases k8 : t.k = 8
    · rw [if_pos k8]
      refine Zd2 Zpu fun k => ?_
      split
      · exact Zpu
      · refine RO.bind_le (ih _ env k inp.length n (by omega) (Nat.le_refl _) hn) fun v q m h1 h2 h3 => ?_
        exact ⟨Nat.le_refl _,hp,h3⟩
    rw [if_neg k8]
    by_cases k9 : t.k = 9
    · rw [if_pos k9]
      refine Zd2 Zpu fun k => ?_
      split
      · exact hi _
      · split
        · exact hi _
        · exact Zpu
    rw [if_neg k9]
    by_cases k10 : t.k = 10
    · rw [if_pos k10]
      split
      · exact Zww ih _ hp he hn
      · trivial
    rw [if_neg k10]
    by_cases k11 : t.k = 11
    · rw [if_pos k11]
      exact Zdq (by omega) hp he hn
    · rw [if_neg k11]; trivial
theorem Zox : ∀ f,Z11 inp (Yi F crc inp f)
  | 0 => fun a env p e n hp he hn => trivial
  | f + 1 => Z4r (Zox f)
end
end Run
end
end Go.Abs
namespace Go.Abs
noncomputable section
namespace Run
def Z3g (s : List Nat) : Nat → List Nat
  | 0 => []
  | n + 1 => s ++ Z3g s n
def U8 : List D → H → O D := fun args h => match args with
  | [.str s,.int .i64 (.ofNat c)] => bif Nat.ble (s.length * c) 140737488355328 && Nat.ble c 9223372036854775807 then .ok (.str (Z3g s c)) h else .fail "repeat"
  | _ => .fail "repeat"
def Zdu : List D → H → O D := fun ds h => match ds with
  | [.str s] => bif Nat.ble s.length 9223372036854775807 then .ok (.str s.reverse) h else .fail "turn"
  | _ => .fail "turn"
def Zlo (c : Nat) : List Nat → List Nat
  | [] => []
  | b :: r => bif Nat.beq b c then Zlo c r else b :: r
def Zcj : List D → H → O D := fun ds h => match ds with
  | [.str s,.str [c]] => bif Nat.ble s.length 9223372036854775807 && Nat.blt c 128 then .ok (.str (Zlo c (Zlo c s.reverse).reverse)) h else .fail "trim"
  | _ => .fail "trim"
def Zhn : Nat → List D → Bool
  | 0,[] => true
  | n + 1,.str _ :: .int .u64 _ :: r => Zhn n r
  | _,_ => false
def Zdt : List D → H → O D := fun ds h => match ds with
  | [.v (.slice none 0 0),.str s,.int .u64 n] => .ok (.sl 0 1 [.str s,.int .u64 n]) h
  | [.sl 0 k cs,.str s,.int .u64 n] => bif Nat.ble k 1000000 && Zhn k cs then .ok (.sl 0 (Nat.add k 1) (cs ++ [.str s,.int .u64 n])) h else .fail "with"
  | _ => .fail "with"
def Zht (de : D) (n : Nat) : List D → H → O D := fun ds h => match ds with
  | [d,.int .i64 (.ofNat a)] => bif D.same d de && Nat.blt a n then .ok (.v (.bool true)) h else .fail "may"
  | _ => .fail "may"
end Run
end
end Go.Abs
