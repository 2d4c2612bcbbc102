/- What a world has to do with the reckoner's memory. -/
import Derived.Test.YthifolidfjpdkaaGreatDoorNdRun
import Derived.Laws.AppendOwn
import Derived.Below
set_option linter.unusedVariables false
set_option linter.unusedSimpArgs false
namespace Go.Abs
noncomputable section
theorem Tr.get_nil {α : Type} (k : Nat) : (Tr.nil : Tr α).get k = none := rfl
theorem Tr.get_setF {α : Type} : ∀ (f : Nat) (t : Tr α) (k j : Nat) (v : Option α),k < f → (Tr.setF f t k v).get j = if j = k then v else t.get j
  | 0,t,k,j,v,h => absurd h (Nat.not_lt_zero _)
  | f + 1,t,k,j,v,h => by
    have ih := @Tr.get_setF α f
    by_cases hk : k = 0
    · subst hk
      by_cases hj : j = 0
      · subst hj; cases t <;> simp [Tr.setF,Tr.get]
      · have hjb : Nat.beq j 0 = false := by cases j <;> simp_all [Nat.beq]
        cases t <;> simp [Tr.setF,Tr.get,hj,hjb]
    · have hkb : Nat.beq k 0 = false := by cases k <;> simp_all [Nat.beq]
      by_cases hj : j = 0
      · subst hj
        cases t <;> (simp only [Tr.setF,hkb,cond_false]; by_cases ho : Nat.beq (k % 2) 1 = true <;> simp [ho,Tr.get,Ne.symm hk])
      · have hjb : Nat.beq j 0 = false := by cases j <;> simp_all [Nat.beq]
        have e1 : ∀ n : Nat,Nat.beq (n % 2) 1 = decide (n % 2 = 1) := fun n => by
          rcases Nat.mod_two_eq_zero_or_one n with h | h <;> rw [h] <;> rfl
        cases t <;> (
          simp only [Tr.setF,hkb,cond_false,e1]
          by_cases ho : k % 2 = 1
          · by_cases hp : j % 2 = 1
            · simp only [ho,Tr.get,hjb,hp,decide_true,cond_true,cond_false]
              rw [ih _ _ _ _ (by omega)]
              by_cases he : j = k
              · simp [he]
              · rw [if_neg (by omega),if_neg he]
                all_goals first | rfl | simp [Tr.get]
            · simp only [ho,Tr.get,hjb,e1,hp,decide_true,decide_false,cond_true,cond_false]
              rw [if_neg (by omega)]
              all_goals first | rfl | simp [Tr.get]
          · by_cases hp : j % 2 = 1
            · simp only [ho,Tr.get,hjb,hp,decide_false,cond_false]
              rw [if_neg (by omega)]
              all_goals first | rfl | simp [Tr.get]
            · simp only [ho,Tr.get,hjb,e1,hp,decide_false,cond_false]
              rw [ih _ _ _ _ (by omega)]
              by_cases he : j = k
              · simp [he]
              · rw [if_neg (by omega),if_neg he]
                all_goals first | rfl | simp [Tr.get])
theorem Tr.get_set {α : Type} (t : Tr α) (k j : Nat) (v : Option α) : (t.set k v).get j = if j = k then v else t.get j :=
  Tr.get_setF _ t k j v (Nat.lt_succ_self k)
structure G where
  blk : Nat → Option Nat
  sl : Nat → Nat → Option (Nat × Nat)
  own : Nat → Option Nat
  imm : Nat → Nat → Option D
structure G.Le (g g' : G) : Prop where
  blk : ∀ l b,g.blk l = some b → g'.blk l = some b
  sl : ∀ l n p,g.sl l n = some p → g'.sl l n = some p
  imm : ∀ b o d,g.imm b o = some d → g'.imm b o = some d
inductive VRel (g : G) : D → Value → Prop
  | v (x : Value) : VRel g (.v x) x
  | int (k : IntKind) (n : Int) : VRel g (.int k n) (.int k n)
  | str (s : ByteArray) : VRel g (.str (ZE s)) (.string s)
  | ptr {l b off : Nat} : g.blk l = some b → VRel g (.ptr l off) (.pointer (some ⟨b,off,none⟩))
  | ep {cs : List D} {b o : Nat} : (∀ (i : Nat) (d : D),cs[i]? = some d → g.imm b (o + i) = some d) → VRel g (.ep cs) (.pointer (some ⟨b,o,none⟩))
  | sl {id n : Nat} {cs : List D} {a : Addr} {cap : Nat} : n ≤ cap → (∀ (i : Nat) (d : D),cs[i]? = some d → a.spot = none ∧ g.imm a.block (a.off + i) = some d) →
      (id ≠ 0 → a.spot = none ∧ a.off = 0 ∧ g.sl id n = some (a.block,cap)) → VRel g (.sl id n cs) (.slice (some a) n cap)
  | row {l b off len cap : Nat} : g.blk l = some b → VRel g (.row l off len cap) (.slice (some ⟨b,off,none⟩) len cap)
  | map {l b : Nat} : g.blk l = some b → VRel g (.map l) (.map (some b))
  | agg {ds : List D} {cs : Array Value} : ds.length = cs.size → (∀ (i : Nat) (d : D) (v : Value),ds[i]? = some d → cs[i]? = some v → VRel g d v) → VRel g (.agg ds) (.agg cs)
  | tup {ds : List D} {cs : Array Value} : ds.length = cs.size → (∀ (i : Nat) (d : D) (v : Value),ds[i]? = some d → cs[i]? = some v → VRel g d v) → VRel g (.tup ds) (.tuple cs)
  | func {fn : Fn} {ds es : List D} {cs us : Array Value} : ds.length = cs.size → (∀ (i : Nat) (d : D) (v : Value),ds[i]? = some d → cs[i]? = some v → VRel g d v) →
      es.length = us.size → (∀ (i : Nat) (d : D) (v : Value),es[i]? = some d → us[i]? = some v → VRel g d v) → VRel g (.func fn ds es) (.func fn cs us)
  | iface {t : TypeId} {d : D} {x : Value} : VRel g d x → VRel g (.iface t d) (.iface t x)
theorem VRel.mono {g g' : G} (hl : g.Le g') {d : D} {x : Value} (h : VRel g d x) : VRel g' d x := by
  induction h with
  | v x => exact .v x
  | int k n => exact .int k n
  | str s => exact .str s
  | ptr h => exact .ptr (hl.blk _ _ h)
  | ep h => exact .ep fun i d hi => hl.imm _ _ _ (h i d hi)
  | sl hn h h0 => exact .sl hn (fun i d hi => ⟨(h i d hi).1,hl.imm _ _ _ (h i d hi).2⟩) (fun hid => ⟨(h0 hid).1,(h0 hid).2.1,hl.sl _ _ _ (h0 hid).2.2⟩)
  | row h => exact .row (hl.blk _ _ h)
  | map h => exact .map (hl.blk _ _ h)
  | agg hl' _ ih => exact .agg hl' ih
  | tup hl' _ ih => exact .tup hl' ih
  | func h1 _ h2 _ ih1 ih2 => exact .func h1 ih1 h2 ih2
  | iface _ ih => exact .iface ih
def Zk (g : G) (ds : List D) (vs : List Value) : Prop := ds.length = vs.length ∧ ∀ (i : Nat) (d : D) (v : Value),ds[i]? = some d → vs[i]? = some v → VRel g d v
theorem Zk.mono {g g' : G} (hl : g.Le g') {ds : List D} {vs : List Value} (h : Zk g ds vs) : Zk g' ds vs := ⟨h.1,fun i d v hd hv => (h.2 i d v hd hv).mono hl⟩
theorem Zk.nil (g : G) : Zk g [] [] := ⟨rfl,fun i d v h => by simp at h⟩
theorem Zk.cons {g : G} {d : D} {v : Value} {ds : List D} {vs : List Value} (h : VRel g d v) (hs : Zk g ds vs) : Zk g (d :: ds) (v :: vs) := by
  refine ⟨by simp [hs.1],fun i e u he hu => ?_⟩
  cases i with
  | zero => simp at he hu; subst he hu; exact h
  | succ i => simp at he hu; exact hs.2 i e u he hu
theorem Zk.head {g : G} {d : D} {v : Value} {ds : List D} {vs : List Value} (h : Zk g (d :: ds) (v :: vs)) : VRel g d v := h.2 0 d v rfl rfl
theorem Zk.tail {g : G} {d : D} {v : Value} {ds : List D} {vs : List Value} (h : Zk g (d :: ds) (v :: vs)) : Zk g ds vs :=
  ⟨by simpa using h.1,fun i e u he hu => h.2 (i + 1) e u (by simpa using he) (by simpa using hu)⟩
theorem Zk.some {g : G} {ds : List D} {vs : List Value} (h : Zk g ds vs) {i : Nat} {d : D} (hd : ds[i]? = some d) : ∃ v,vs[i]? = some v ∧ VRel g d v := by
  have hi : i < ds.length := (List.getElem?_eq_some_iff.1 hd).1
  have : i < vs.length := by rw [← h.1]; exact hi
  exact ⟨vs[i],List.getElem?_eq_getElem this,h.2 i d _ hd (List.getElem?_eq_getElem this)⟩
theorem Zk.append {g : G} {ds es : List D} {vs us : List Value} (h : Zk g ds vs) (k : Zk g es us) : Zk g (ds ++ es) (vs ++ us) := by
  refine ⟨by simp [h.1,k.1],fun i d v hd hv => ?_⟩
  by_cases hi : i < ds.length
  · rw [List.getElem?_append_left hi] at hd
    rw [List.getElem?_append_left (by rw [← h.1]; exact hi)] at hv
    exact h.2 i d v hd hv
  · rw [List.getElem?_append_right (by omega)] at hd
    rw [List.getElem?_append_right (by rw [← h.1]; omega),← h.1] at hv
    exact k.2 _ d v hd hv
theorem Zk.take {g : G} {ds : List D} {vs : List Value} (h : Zk g ds vs) (n : Nat) : Zk g (ds.take n) (vs.take n) := by
  refine ⟨by simp [h.1],fun i d v hd hv => ?_⟩
  rw [List.getElem?_take] at hd hv
  split at hd
  · simp_all; exact h.2 i d v hd hv
  · simp at hd
theorem Zk.drop {g : G} {ds : List D} {vs : List Value} (h : Zk g ds vs) (n : Nat) : Zk g (ds.drop n) (vs.drop n) := by
  refine ⟨by simp [h.1],fun i d v hd hv => ?_⟩
  rw [List.getElem?_drop] at hd hv
  exact h.2 _ d v hd hv
theorem Zk.mapv (g : G) (vs : List Value) : Zk g (vs.map .v) vs := by
  refine ⟨by simp,fun i d v hd hv => ?_⟩
  rw [List.getElem?_map,hv] at hd
  simp at hd
  subst hd
  exact .v v
theorem VRel.of0 (g : G) (x : Value) : VRel g (.of0 x) x := by
  cases x <;> first | exact .int _ _ | exact .str _ | exact .v _
theorem Zk.mapOf (g : G) (vs : List Value) : Zk g (vs.map .of0) vs := by
  refine ⟨by simp,fun i d v hd hv => ?_⟩
  rw [List.getElem?_map,hv] at hd
  simp at hd
  subst hd
  exact .of0 g v
theorem VRel.of (g : G) (x : Value) : VRel g (.of x) x := by
  cases x with
  | agg cs => exact .agg (by simp) (fun i d v hd hv => (Zk.mapOf g cs.toList).2 i d v hd (by simpa using hv))
  | tuple cs => exact .tup (by simp) (fun i d v hd hv => (Zk.mapOf g cs.toList).2 i d v hd (by simpa using hv))
  | _ => first | exact .int _ _ | exact .str _ | exact .v _
theorem VRel.undef (g : G) : VRel g ZD Go.undef := .tup rfl (fun i d v h => by simp at h)
theorem VRel.agg' {g : G} {ds : List D} {cs : Array Value} (h : Zk g ds cs.toList) : VRel g (.agg ds) (.agg cs) :=
  .agg (by simpa using h.1) (fun i d v hd hv => h.2 i d v hd (by simpa using hv))
theorem VRel.tup' {g : G} {ds : List D} {cs : Array Value} (h : Zk g ds cs.toList) : VRel g (.tup ds) (.tuple cs) :=
  .tup (by simpa using h.1) (fun i d v hd hv => h.2 i d v hd (by simpa using hv))
theorem VRel.cells {g : G} {d : D} {x : Value} (h : VRel g d x) : Zk g d.cells x.cells.toList := by
  cases h with
  | agg hl hv => exact ⟨by simpa [D.cells,Value.cells] using hl,fun i d v hd hu => hv i d v hd (by simpa [Value.cells] using hu)⟩
  | v x => cases x <;> first | exact .cons (.v _) (.nil _) | exact Zk.mapv g _
  | int k n => exact .cons (.int k n) (.nil _)
  | str s => exact .cons (.str s) (.nil _)
  | ptr h => exact .cons (.ptr h) (.nil _)
  | ep h => exact .cons (.ep h) (.nil _)
  | sl a b c => exact .cons (.sl a b c) (.nil _)
  | row h => exact .cons (.row h) (.nil _)
  | map h => exact .cons (.map h) (.nil _)
  | tup a b => exact .cons (.tup a b) (.nil _)
  | func a b c d => exact .cons (.func a b c d) (.nil _)
  | iface h => exact .cons (.iface h) (.nil _)
theorem VRel.one {g : G} {d : D} {x : Value} (h : VRel g d x) (ho : d.one = true) : x.oneCell' = true := by
  cases h with
  | v x => cases x <;> first | rfl | simp [D.one] at ho
  | int _ _ => rfl
  | str _ => rfl
  | agg _ _ => simp [D.one] at ho
  | tup _ _ => simp [D.one] at ho
  | _ => rfl
theorem Zpp : ∀ {ds : List D},Y4 ds = true → ∀ (i : Nat) (d : D),ds[i]? = some d → d.one = true
  | [],_,i,d,h => by simp at h
  | e :: r,ha,i,d,h => by
    simp only [Y4,Bool.and_eq_true] at ha
    cases i with
    | zero => simp at h; subst h; exact ha.1
    | succ i => simp at h; exact Zpp ha.2 i d h
theorem Zk.one {g : G} {ds : List D} {vs : List Value} (h : Zk g ds vs) (ho : Y4 ds = true) : ∀ v ∈ vs,v.oneCell' = true := by
  intro v hv
  obtain ⟨i,hi,rfl⟩ := List.getElem_of_mem hv
  have hd : i < ds.length := by rw [h.1]; exact hi
  exact (h.2 i ds[i] vs[i] (List.getElem?_eq_getElem hd) (List.getElem?_eq_getElem hi)).one (Zpp ho i _ (List.getElem?_eq_getElem hd))
theorem Zk0 (s : ByteArray) : strV (ZE s) = s := by
  cases s with
  | mk a =>
    simp only [strV,ZE,List.map_map]
    have : (UInt8.ofNat ∘ fun x : UInt8 => x.toNat) = id := funext fun x => by simp
    rw [this]; simp
theorem Zqv {d : D} {x y : Value} (h : d.plain1 = some x) {g : G} (hv : VRel g d y) : y = x := by
  cases hv <;> simp only [D.plain1] at h <;> try (simp at h; done)
  · simpa using h
  · simpa using h
  · rw [Zk0] at h; simpa using h
theorem Zzs : ∀ {ds : List D} {l : List Value},Z1u ds = some l → ∀ {g : G} {vs : List Value},Zk g ds vs → vs = l
  | [],l,h,g,vs,hv => by
    simp [Z1u] at h; subst h
    have := hv.1; simp at this; exact List.eq_nil_of_length_eq_zero this.symm
  | d :: r,l,h,g,vs,hv => by
    cases vs with
    | nil => have := hv.1; simp at this
    | cons u us =>
      simp only [Z1u] at h
      split at h
      · rename_i x l' h1 h2
        simp at h; subst h
        rw [Zzs h2 hv.tail,Zqv h1 hv.head]
      · simp at h
theorem Zqw {d : D} {x y : Value} (h : d.plain0 = some x) {g : G} (hv : VRel g d y) : y = x := by
  cases d with
  | agg cs =>
    simp only [D.plain0] at h
    cases ha : Z1u cs with
    | none => simp [ha] at h
    | some l =>
      simp [ha] at h; subst h
      cases hv with
      | agg hl hv =>
        rename_i us
        have : us.toList = l := Zzs ha (g := g) ⟨by simpa using hl,fun i d v hd hu => hv i d v hd (by simpa using hu)⟩
        rw [← this]
  | _ => exact Zqv (by simpa [D.plain0] using h) hv
theorem Za7 {d : D} {x y : Value} (h : d.plain = some x) {g : G} (hv : VRel g d y) : y = x := by
  cases d with
  | iface t d =>
    simp only [D.plain] at h
    cases hp : d.plain0 with
    | none => simp [hp] at h
    | some u => simp [hp] at h; subst h; cases hv with | iface hv => rw [Zqw hp hv]
  | _ => exact Zqw (by simpa [D.plain] using h) hv
theorem Zlj : ∀ {ds : List D} {l : List Value},Zgj ds = some l → ∀ {g : G} {vs : List Value},Zk g ds vs → vs = l
  | [],l,h,g,vs,hv => by
    simp [Zgj] at h; subst h
    have := hv.1; simp at this; exact List.eq_nil_of_length_eq_zero this.symm
  | d :: r,l,h,g,vs,hv => by
    cases vs with
    | nil => have := hv.1; simp at this
    | cons u us =>
      simp only [Zgj] at h
      split at h
      · rename_i x l' h1 h2
        simp at h; subst h
        rw [Zlj h2 hv.tail,Za7 h1 hv.head]
      · simp at h
theorem Wr {α : Type} {p : Program} : ∀ {s : Sem α} {a : α},Zf9 p s = some a → ∀ w,s.run p w = .ok a w
  | .pure a,b,h,w => by simp [Zf9] at h; subst h; rfl
  | .program k,b,h,w => by simp only [Zf9] at h; exact Wr h w
  | .mark m k,b,h,w => by simp only [Zf9] at h; exact Wr h w
inductive Lies (g : G) : AObj → Obj → Prop
  | cells {ds : List D} {c : Array Value} {t : TypeId} : Zk g ds c.toList → Lies g (.cells t ds) (.cells c t (0,0))
  | map {es : List (D × D)} {ces : Array MapEntry} {clock : Nat} : es.length = ces.size → (∀ (i : Nat) k d (e : MapEntry),es[i]? = some (k,d) → ces[i]? = some e → VRel g k e.key ∧ VRel g d e.val) →
      Lies g (.map es) (.map ces clock)
theorem Lies.mono {g g' : G} (hl : g.Le g') {o : AObj} {ob : Obj} (h : Lies g o ob) : Lies g' o ob := by
  cases h with
  | cells h => exact .cells (h.mono hl)
  | map h1 h2 => exact .map h1 fun i k d e hi he => ⟨(h2 i k d e hi he).1.mono hl,(h2 i k d e hi he).2.mono hl⟩
def Zf6 (g : G) (l : Nat) : Prop := g.blk l = none ∧ (∀ n,g.sl l n = none) ∧ ∀ b,g.own b ≠ some l
def Zpk : Obj → Bool
  | .cells .. => true
  | _ => false
structure R (P : Program) (top : Nat) (g : G) (h : H) (w : World) : Prop where
  obj : ∀ l o,h.mem.get l = some o → (∀ n e,o ≠ .tip n e) → ∃ b ob,g.blk l = some b ∧ w.heap[b]? = some ob ∧ Lies g o ob
  tip : ∀ id n e,h.mem.get id = some (.tip n e) → ∃ b cap xs,g.sl id n = some (b,cap) ∧ w.ownsRow 0 e (P.cellsOf e) (.slice (some ⟨b,0,none⟩) n cap) n xs ∧
    (∀ o,n * P.cellsOf e ≤ o → g.imm b o = none) ∧ (∀ k,n < k → g.sl id k = none)
  imm : ∀ b o d,g.imm b o = some d → ∃ v,w.cell? ⟨b,o,none⟩ = some v ∧ VRel g d v
  blkown : ∀ l b,g.blk l = some b → g.own b = some l ∧ ∀ o,g.imm b o = none
  slown : ∀ id n b cap,g.sl id n = some (b,cap) → g.own b = some id
  name : ∀ l,h.next ≤ l → l < top → Zf6 g l
  dom : ∀ l,h.next ≤ l → h.mem.get l = none
  le : h.next ≤ top
  block : ∀ b,w.heap.size ≤ b → g.own b = none
  pos : 0 < h.next ∧ h.mem.get 0 = none
  slblk : ∀ id n p,g.sl id n = some p → g.blk id = none
  ownk : ∀ b l,g.own b = some l → ∀ ob,w.heap[b]? = some ob → Zpk ob = true ∨ g.blk l = some b
structure Ext (g : G) (h : H) (w : World) (g' : G) (h' : H) (w' : World) : Prop where
  le : g.Le g'
  own : ∀ b l,g.own b = some l → g'.own b = some l
  ownold : ∀ b,b < w.heap.size → g'.own b = g.own b
  os : w'.os = w.os
  tape : w'.tape = w.tape
  output : w'.output = w.output
  size : w.heap.size ≤ w'.heap.size
  fr : ∀ b,b < w.heap.size → (∀ l,g.own b = some l → h.mem.get l = none) → w'.heap[b]? = w.heap[b]?
  dom : ∀ l,l < h.next → h.mem.get l = none → h'.mem.get l = none
  next : h.next ≤ h'.next
  names : ∀ l,Zf6 g l → (l < h.next ∨ h'.next ≤ l) → Zf6 g' l
  immfr : ∀ b,b < w.heap.size → (∀ l,g.own b = some l → h.mem.get l = none) → ∀ o,g'.imm b o = g.imm b o
  slfr : ∀ id n,h.mem.get id = none → (id < h.next ∨ h'.next ≤ id) → g'.sl id n = g.sl id n
theorem G.Le.refl (g : G) : g.Le g := ⟨fun _ _ h => h,fun _ _ _ h => h,fun _ _ _ h => h⟩
theorem G.Le.trans {a b c : G} (h : a.Le b) (k : b.Le c) : a.Le c := ⟨fun _ _ x => k.blk _ _ (h.blk _ _ x),fun _ _ _ x => k.sl _ _ _ (h.sl _ _ _ x),fun _ _ _ x => k.imm _ _ _ (h.imm _ _ _ x)⟩
theorem Ext.refl (g : G) (h : H) (w : World) : Ext g h w g h w := ⟨.refl g,fun _ _ x => x,fun _ _ => rfl,rfl,rfl,rfl,Nat.le_refl _,fun _ _ _ => rfl,fun _ _ x => x,Nat.le_refl _,fun _ x _ => x,fun _ _ _ _ => rfl,fun _ _ _ _ => rfl⟩
theorem Ext.trans {P : Program} {top : Nat} {g1 g2 g3 : G} {h1 h2 h3 : H} {w1 w2 w3 : World} (hr : R P top g1 h1 w1) (hr2 : R P top g2 h2 w2) (a : Ext g1 h1 w1 g2 h2 w2) (b : Ext g2 h2 w2 g3 h3 w3) : Ext g1 h1 w1 g3 h3 w3 := by
  have hlt : ∀ b l,g1.own b = some l → l < h1.next ∨ top ≤ l := fun b l hb => by
    by_cases h1 : l < h1.next
    · exact .inl h1
    · by_cases h2 : top ≤ l
      · exact .inr h2
      · exact absurd hb ((hr.name l (by omega) (by omega)).2.2 b)
  refine ⟨a.le.trans b.le,fun x l h => b.own x l (a.own x l h),fun x hx => (b.ownold x (Nat.lt_of_lt_of_le hx a.size)).trans (a.ownold x hx),b.os.trans a.os,b.tape.trans a.tape,b.output.trans a.output,
    Nat.le_trans a.size b.size,fun x hx ho => ?_,fun l hl hn => ?_,Nat.le_trans a.next b.next,fun l hl hor => ?_,fun x hx ho o => ?_,fun id n hn hor => ?_⟩
  · rw [b.fr x (Nat.lt_of_lt_of_le hx a.size) (fun l hl => ?_),a.fr x hx ho]
    rw [a.ownold x hx] at hl
    rcases hlt x l hl with h3 | h3
    · exact a.dom l h3 (ho l hl)
    · exact hr2.dom l (Nat.le_trans hr2.le h3)
  · exact b.dom l (Nat.lt_of_lt_of_le hl a.next) (a.dom l hl hn)
  · refine b.names l (a.names l hl ?_) ?_
    · rcases hor with h1 | h1
      · exact .inl h1
      · exact .inr (Nat.le_trans b.next h1)
    · rcases hor with h1 | h1
      · exact .inl (Nat.lt_of_lt_of_le h1 a.next)
      · exact .inr h1
  · rw [b.immfr x (Nat.lt_of_lt_of_le hx a.size) (fun l hl => ?_),a.immfr x hx ho]
    rw [a.ownold x hx] at hl
    rcases hlt x l hl with h3 | h3
    · exact a.dom l h3 (ho l hl)
    · exact hr2.dom l (Nat.le_trans hr2.le h3)
  · rcases hor with h3 | h3
    · rw [b.slfr id n (a.dom id h3 hn) (.inl (Nat.lt_of_lt_of_le h3 a.next)),a.slfr id n hn (.inl h3)]
    · have h4 := Nat.le_trans b.next h3
      rw [b.slfr id n (hr2.dom id h4) (.inr h3),a.slfr id n hn (.inr h4)]
theorem R.world {P : Program} {top : Nat} {g : G} {h : H} {w w' : World} (hr : R P top g h w) (hh : w'.heap = w.heap) : R P top g h w' := by
  have hc : ∀ a,w'.cell? a = w.cell? a := fun a => by simp [World.cell?,hh]
  refine ⟨fun l o ho hn => ?_,fun id n e hi => ?_,fun b o d hd => ?_,hr.blkown,hr.slown,hr.name,hr.dom,hr.le,fun b hb => hr.block b (by rwa [hh] at hb),hr.pos,hr.slblk,fun b l hb ob hob => hr.ownk b l hb ob (by rwa [hh] at hob)⟩
  · rw [hh]; exact hr.obj l o ho hn
  · obtain ⟨b,cap,xs,h1,h2,h3,h4⟩ := hr.tip id n e hi
    exact ⟨b,cap,xs,h1,by unfold World.ownsRow at h2 ⊢; rw [hh]; exact h2,h3,h4⟩
  · rw [hc]; exact hr.imm b o d hd
theorem Ext.world {g : G} {h : H} {w w' : World} (hh : w'.heap = w.heap) (ho : w'.os = w.os) (ht : w'.tape = w.tape) (hp : w'.output = w.output) : Ext g h w g h w' :=
  ⟨.refl g,fun _ _ x => x,fun _ _ => rfl,ho,ht,hp,by rw [hh]; exact Nat.le_refl _,fun _ _ _ => by rw [hh],fun _ _ x => x,Nat.le_refl _,fun _ x _ => x,fun _ _ _ _ => rfl,fun _ _ _ _ => rfl⟩
theorem H.new_next (h : H) (o : AObj) : (h.new o).2.next = h.next + 1 := rfl
theorem H.new_get (h : H) (o : AObj) (l : Nat) : (h.new o).2.mem.get l = if l = h.next then some o else h.mem.get l := Tr.get_set _ _ _ _
theorem H.put_get (h : H) (k l : Nat) (o : AObj) : (h.put k o).mem.get l = if l = k then some o else h.mem.get l := Tr.get_set _ _ _ _
theorem R.new {P : Program} {top : Nat} {g : G} {h : H} {w : World} (hr : R P top g h w) (htop : h.next < top) {o : AObj} {ob : Obj} (hl : Lies g o ob) :
    ∃ g',Ext g h w g' (h.new o).2 (w.alloc ob) ∧ R P top g' (h.new o).2 (w.alloc ob) ∧ g'.blk h.next = some w.heap.size := by
  have hnm := hr.name h.next (Nat.le_refl _) htop
  let g' : G := { blk := fun l => if l = h.next then some w.heap.size else g.blk l,sl := g.sl,own := fun b => if b = w.heap.size then some h.next else g.own b,imm := g.imm }
  have hle : g.Le g' := ⟨fun l b hb => by
      show (if l = h.next then _ else _) = _
      rw [if_neg (fun e => by subst e; rw [hnm.1] at hb; cases hb)]; exact hb,fun _ _ _ x => x,fun _ _ _ x => x⟩
  have himm : ∀ o,g.imm w.heap.size o = none := fun o => by
    cases hi : g.imm w.heap.size o with
    | none => rfl
    | some d => obtain ⟨v,hv,_⟩ := hr.imm _ _ _ hi; have := World.block_lt_of_cell? w _ hv; simp at this
  have hne : ∀ b l,g.own b = some l → b ≠ w.heap.size := fun b l hb e => by subst e; rw [hr.block _ (Nat.le_refl _)] at hb; cases hb
  refine ⟨g',⟨hle,fun b l hb => ?_,fun b hb => if_neg (Nat.ne_of_lt hb),rfl,rfl,rfl,by simp,fun b hb _ => heap_alloc_old w ob b hb,fun l hl hn => ?_,Nat.le_succ _,fun l hf hor => ?_,fun _ _ _ _ => rfl,fun _ _ _ _ => rfl⟩,⟨?_, ?_, ?_, ?_, ?_, ?_, ?_, ?_, ?_, ?_, ?_, ?_⟩,if_pos rfl⟩
  · show (if b = w.heap.size then _ else _) = _
    rw [if_neg (hne b l hb)]; exact hb
  · rw [H.new_get,if_neg (Nat.ne_of_lt hl)]; exact hn
  · rw [H.new_next] at hor
    have hne2 : l ≠ h.next := by omega
    refine ⟨by show (if l = h.next then _ else _) = _; rw [if_neg hne2]; exact hf.1,hf.2.1,fun b hb => ?_⟩
    by_cases e : b = w.heap.size
    · have : h.next = l := by simpa [g',e] using hb
      omega
    · exact hf.2.2 b (by simpa [g',e] using hb)
  · intro l o' ho hn
    rw [H.new_get] at ho
    by_cases e : l = h.next
    · rw [if_pos e] at ho
      cases ho
      exact ⟨w.heap.size,ob,if_pos e,heap_alloc_new w ob,hl.mono hle⟩
    · rw [if_neg e] at ho
      obtain ⟨b,ob',h1,h2,h3⟩ := hr.obj l o' ho hn
      exact ⟨b,ob',hle.blk _ _ h1,by rw [heap_alloc_old w ob b (Array.getElem?_eq_some_iff.1 h2).1]; exact h2,h3.mono hle⟩
  · intro id n e hi
    rw [H.new_get] at hi
    by_cases ee : id = h.next
    · rw [if_pos ee] at hi
      cases hi
      cases hl
    · rw [if_neg ee] at hi
      obtain ⟨b,cap,xs,h1,h2,h3,h4⟩ := hr.tip id n e hi
      exact ⟨b,cap,xs,h1,h2.alloc ob,h3,h4⟩
  · intro b o' d hd
    obtain ⟨v,hv,hd'⟩ := hr.imm b o' d hd
    exact ⟨v,(World.grownBy_alloc w ob none).cell hv (by simp),hd'.mono hle⟩
  · intro l b hb
    by_cases e : l = h.next
    · have hb' : w.heap.size = b := by simpa [g',e] using hb
      subst hb'
      exact ⟨by simp [g',e],himm⟩
    · have hb' : g.blk l = some b := by simpa [g',e] using hb
      have := hr.blkown l b hb'
      exact ⟨by show (if b = w.heap.size then _ else _) = _; rw [if_neg (hne b l this.1)]; exact this.1,this.2⟩
  · intro id n b cap hs
    have := hr.slown id n b cap hs
    show (if b = w.heap.size then _ else _) = _
    rw [if_neg (hne b id this)]; exact this
  · intro l hl hlt
    rw [H.new_next] at hl
    have := hr.name l (by omega) hlt
    refine ⟨by show (if l = h.next then _ else _) = _; rw [if_neg (by omega)]; exact this.1,this.2.1,fun b hb => ?_⟩
    by_cases e : b = w.heap.size
    · have : h.next = l := by simpa [g',e] using hb
      omega
    · exact this.2.2 b (by simpa [g',e] using hb)
  · intro l hl
    rw [H.new_next] at hl
    rw [H.new_get,if_neg (by omega)]; exact hr.dom l (by omega)
  · rw [H.new_next]; omega
  · intro b hb
    have hb' : w.heap.size + 1 ≤ b := by simpa using hb
    show (if b = w.heap.size then _ else _) = _
    rw [if_neg (by omega)]; exact hr.block b (by omega)
  · exact ⟨by rw [H.new_next]; omega,by rw [H.new_get,if_neg (Nat.ne_of_lt hr.pos.1)]; exact hr.pos.2⟩
  · intro id n p hp
    show (if id = h.next then _ else _) = _
    rw [if_neg (fun e => by subst e; rw [hnm.2.1 n] at hp; cases hp)]; exact hr.slblk id n p hp
  · intro b l hb ob' hob
    by_cases e : b = w.heap.size
    · have : h.next = l := by simpa [g',e] using hb
      subst this
      subst e
      exact .inr (if_pos rfl)
    · have hb' : g.own b = some l := by simpa [g',e] using hb
      have hlt : b < w.heap.size := Nat.lt_of_not_le fun hq => by rw [hr.block b hq] at hb'; cases hb'
      rw [heap_alloc_old w ob b hlt] at hob
      exact (hr.ownk b l hb' ob' hob).imp (fun h => h) fun h => hle.blk _ _ h
theorem R.put {P : Program} {top : Nat} {g : G} {h : H} {w w' : World} (hr : R P top g h w) {l b : Nat} {o o' : AObj} {ob : Obj} (ho : h.mem.get l = some o) (hnt : ∀ n e,o ≠ .tip n e) (hb : g.blk l = some b)
    (hg : w.grownBy w' (some b)) (hs : w'.heap.size = w.heap.size) (hnew : w'.heap[b]? = some ob) (hl : Lies g o' ob) :
    Ext g h w g (h.put l o') w' ∧ R P top g (h.put l o') w' := by
  have hown := hr.blkown l b hb
  have hlt : l < h.next := Nat.lt_of_not_le fun hn => by have := hr.dom l hn; rw [this] at ho; cases ho
  refine ⟨⟨.refl g,fun _ _ x => x,fun _ _ => rfl,hg.os,hg.tape,hg.output,hg.size,fun x hx hf => hg.block x hx (fun e => ?_),fun k hk hn => ?_,Nat.le_refl _,fun _ x _ => x,fun _ _ _ _ => rfl,fun _ _ _ _ => rfl⟩,⟨?_, ?_, ?_,hr.blkown,hr.slown,hr.name, ?_,hr.le,fun x hx => hr.block x (by rwa [hs] at hx), ?_,hr.slblk,fun x k hx ox hox => ?_⟩⟩
  · cases e
    rw [hf l hown.1] at ho
    cases ho
  · rw [H.put_get]
    by_cases e : k = l
    · subst e; rw [hn] at ho; cases ho
    · rw [if_neg e]; exact hn
  · intro k q hq hn
    rw [H.put_get] at hq
    by_cases e : k = l
    · subst e
      rw [if_pos rfl] at hq
      cases hq
      exact ⟨b,ob,hb,hnew,hl⟩
    · rw [if_neg e] at hq
      obtain ⟨x,ox,h1,h2,h3⟩ := hr.obj k q hq hn
      refine ⟨x,ox,h1, ?_,h3⟩
      rw [hg.block x (Array.getElem?_eq_some_iff.1 h2).1 (fun ee => ?_)]
      · exact h2
      · cases ee
        have := (hr.blkown k b h1).1
        rw [hown.1] at this
        cases this
        exact e rfl
  · intro id n e hi
    rw [H.put_get] at hi
    by_cases ee : id = l
    · subst ee
      rw [if_pos rfl] at hi
      cases hi
      cases hl
    · rw [if_neg ee] at hi
      obtain ⟨x,cap,xs,h1,h2,h3,h4⟩ := hr.tip id n e hi
      refine ⟨x,cap,xs,h1,h2.kept hg (.inr fun eq => ?_),h3,h4⟩
      simp [Value.ownBlock] at eq
      subst eq
      have := hr.slown id n x cap h1
      rw [hown.1] at this
      cases this
      exact ee rfl
  · intro x y d hd
    obtain ⟨v,hv,hd'⟩ := hr.imm x y d hd
    refine ⟨v,hg.cell hv (fun e => ?_),hd'⟩
    cases e
    rw [hown.2 y] at hd
    cases hd
  · intro k hk
    rw [H.put_get,if_neg (by have : h.next ≤ k := hk; omega)]; exact hr.dom k hk
  · exact ⟨hr.pos.1,by rw [H.put_get,if_neg (fun e => by subst e; rw [hr.pos.2] at ho; cases ho)]; exact hr.pos.2⟩
  · by_cases e : x = b
    · subst e
      rw [hown.1] at hx
      cases hx
      exact .inr hb
    · have hlx : x < w.heap.size := Nat.lt_of_not_le fun hq => by rw [hr.block x hq] at hx; cases hx
      rw [hg.block x hlx (fun ee => e (by cases ee; rfl))] at hox
      exact hr.ownk x k hx ox hox
end
end Go.Abs
namespace Go.Abs
noncomputable section
theorem R.imm_new {P : Program} {top : Nat} {g : G} {h : H} {w : World} (hr : R P top g h w) {b : Nat} (hb : w.heap.size ≤ b) (o : Nat) : g.imm b o = none := by
  cases hi : g.imm b o with
  | none => rfl
  | some d => obtain ⟨v,hv,_⟩ := hr.imm _ _ _ hi; have := World.block_lt_of_cell? w _ hv; simp at this; omega
theorem Zad {w : World} {e : TypeId} {size b n cap : Nat} {xs : List Value} (h : w.ownsRow 0 e size (.slice (some ⟨b,0,none⟩) n cap) n xs) {o : Nat} {v : Value} (hx : xs[o]? = some v) : w.cell? ⟨b,o,none⟩ = some v := by
  have := h.cells (g := b) rfl o v hx
  have hadd : (⟨b,0,none⟩ : Addr).add o = ⟨b,o,none⟩ := by unfold Addr.add; split <;> simp_all
  rwa [hadd] at this
theorem R.slFresh {P : Program} {top : Nat} {g : G} {h h' : H} {w w' : World} (hr : R P top g h w) (htop : h'.next ≤ top) {id N cap b : Nat} {e : TypeId} {ds : List D} {xs : List Value}
    (hid : (id = h.next ∧ h' = (h.new (.tip N e)).2) ∨ (∃ n,h.mem.get id = some (.tip n e) ∧ n < N ∧ h' = h.put id (.tip N e)))
    (hg : w.grownBy w' none) (hb : w.heap.size ≤ b) (hrow : w'.ownsRow 0 e (P.cellsOf e) (.slice (some ⟨b,0,none⟩) N cap) N xs) (hcap : N ≤ cap) (hds : Zk g ds xs) :
    ∃ g',Ext g h w g' h' w' ∧ R P top g' h' w' ∧ VRel g' (.sl id N ds) (.slice (some ⟨b,0,none⟩) N cap) := by
  have hget : ∀ l,h'.mem.get l = if l = id then some (.tip N e) else h.mem.get l := by
    intro l
    rcases hid with ⟨rfl,rfl⟩ | ⟨n,_,_,rfl⟩
    · exact H.new_get _ _ _
    · exact H.put_get _ _ _ _
  have hnext : h.next ≤ h'.next := by rcases hid with ⟨rfl,rfl⟩ | ⟨n,_,_,rfl⟩ <;> simp [H.new,H.put]
  have hidlt : id < h'.next := by
    rcases hid with ⟨rfl,rfl⟩ | ⟨n,hn,_,rfl⟩
    · simp [H.new]
    · exact Nat.lt_of_not_le fun hq => by have := hr.dom id hq; rw [this] at hn; cases hn
  have hblk0 : g.blk id = none := by
    rcases hid with ⟨rfl,rfl⟩ | ⟨n,hn,_,rfl⟩
    · exact (hr.name _ (Nat.le_refl _) htop).1
    · obtain ⟨_,_,_,h1,_⟩ := hr.tip id n e hn
      exact hr.slblk id n _ h1
  have hidpos : id ≠ 0 := by
    rcases hid with ⟨rfl,rfl⟩ | ⟨n,hn,_,rfl⟩
    · have := hr.pos.1; omega
    · intro e0; subst e0; rw [hr.pos.2] at hn; cases hn
  have hslN : ∀ k,N ≤ k → g.sl id k = none := by
    intro k hk
    rcases hid with ⟨rfl,rfl⟩ | ⟨n,hn,hlt,rfl⟩
    · exact (hr.name _ (Nat.le_refl _) htop).2.1 k
    · obtain ⟨_,_,_,_,_,_,h4⟩ := hr.tip id n e hn
      exact h4 k (by omega)
  let g' : G := { blk := g.blk,sl := fun i n => if i = id ∧ n = N then some (b,cap) else g.sl i n,own := fun x => if x = b then some id else g.own x,imm := fun x o => if x = b then ds[o]? else g.imm x o }
  have hle : g.Le g' := ⟨fun _ _ x => x,fun l n p hp => by
      show (if l = id ∧ n = N then _ else _) = _
      rw [if_neg (fun e => by obtain ⟨rfl,rfl⟩ := e; rw [hslN n (Nat.le_refl _)] at hp; cases hp)]; exact hp,fun x o d hd => by
      show (if x = b then _ else _) = _
      rw [if_neg (fun e => by subst e; rw [hr.imm_new hb] at hd; cases hd)]; exact hd⟩
  have hneb : ∀ x l,g.own x = some l → x ≠ b := fun x l hx e => by subst e; rw [hr.block _ hb] at hx; cases hx
  have hbl : b < w'.heap.size := (hrow.lt b rfl).2
  have hds' : Zk g' ds xs := hds.mono hle
  have hlen : ds.length = N * P.cellsOf e := hds.1.trans hrow.1
  have hdom : ∀ l,l < h.next → h.mem.get l = none → h'.mem.get l = none := by
    intro l hl hn
    rw [hget]
    by_cases e1 : l = id
    · subst e1
      rcases hid with ⟨rfl,rfl⟩ | ⟨n,hq,_,rfl⟩
      · omega
      · rw [hn] at hq; cases hq
    · rw [if_neg e1]; exact hn
  have hnames : ∀ l,Zf6 g l → (l < h.next ∨ h'.next ≤ l) → Zf6 g' l := by
    intro l hf hor
    have hne : l ≠ id := by
      rintro rfl
      rcases hid with ⟨rfl,rfl⟩ | ⟨n,hn,_,rfl⟩
      · have : (h.new (.tip N e)).2.next = h.next + 1 := rfl
        omega
      · obtain ⟨_,_,_,h1,_⟩ := hr.tip l n e hn
        rw [hf.2.1 n] at h1; cases h1
    refine ⟨hf.1,fun n => by show (if l = id ∧ _ then _ else _) = _; rw [if_neg (fun q => hne q.1)]; exact hf.2.1 n,fun x hx => ?_⟩
    by_cases ex : x = b
    · have : id = l := by simpa [g',ex] using hx
      exact hne this.symm
    · exact hf.2.2 x (by simpa [g',ex] using hx)
  refine ⟨g',⟨hle,fun x l hx => ?_,fun x hx => if_neg (fun e => by omega),hg.os,hg.tape,hg.output,hg.size,fun x hx _ => hg.block x hx (by simp),hdom,hnext,hnames,fun x hx _ o => if_neg (fun e => by omega),fun i n hn hor => if_neg (fun q => ?_)⟩,⟨?_, ?_, ?_, ?_, ?_, ?_, ?_,htop, ?_, ?_, ?_, ?_⟩, ?_⟩
  · show (if x = b then _ else _) = _
    rw [if_neg (hneb x l hx)]; exact hx
  · rcases hid with ⟨rfl,rfl⟩ | ⟨m,hm,_,rfl⟩
    · have : (h.new (.tip N e)).2.next = h.next + 1 := rfl
      omega
    · rw [q.1,hm] at hn; cases hn
  · intro l o ho hn
    rw [hget] at ho
    by_cases e1 : l = id
    · rw [if_pos e1] at ho; cases ho; exact absurd rfl (hn _ _)
    · rw [if_neg e1] at ho
      obtain ⟨x,ob,h1,h2,h3⟩ := hr.obj l o ho hn
      exact ⟨x,ob,h1,by rw [hg.block x (Array.getElem?_eq_some_iff.1 h2).1 (by simp)]; exact h2,h3.mono hle⟩
  · intro i n e' hi
    rw [hget] at hi
    by_cases e1 : i = id
    · rw [if_pos e1] at hi
      cases hi
      subst e1
      refine ⟨b,cap,xs,if_pos ⟨rfl,rfl⟩,hrow,fun o ho => ?_,fun k hk => ?_⟩
      · show (if b = b then _ else _) = _
        rw [if_pos rfl]; exact List.getElem?_eq_none (by omega)
      · show (if i = i ∧ k = _ then _ else _) = _
        rw [if_neg (by omega)]; exact hslN k (by omega)
    · rw [if_neg e1] at hi
      obtain ⟨x,cp,ys,h1,h2,h3,h4⟩ := hr.tip i n e' hi
      have hx : x ≠ b := hneb x i (hr.slown _ _ _ _ h1)
      refine ⟨x,cp,ys,hle.sl _ _ _ h1,h2.kept hg (.inr (by simp [Value.ownBlock])),fun o ho => ?_,fun k hk => ?_⟩
      · show (if x = b then _ else _) = _
        rw [if_neg hx]; exact h3 o ho
      · show (if i = id ∧ _ then _ else _) = _
        rw [if_neg (fun q => e1 q.1)]; exact h4 k hk
  · intro x o d hd
    by_cases ex : x = b
    · subst ex
      have hd' : ds[o]? = some d := by simpa [g'] using hd
      obtain ⟨v,hv,hvr⟩ := hds'.some hd'
      exact ⟨v,Zad hrow hv,hvr⟩
    · have hd' : g.imm x o = some d := by simpa [g',ex] using hd
      obtain ⟨v,hv,hvr⟩ := hr.imm x o d hd'
      exact ⟨v,hg.cell hv (by simp),hvr.mono hle⟩
  · intro l x hx
    have := hr.blkown l x hx
    have hxb := hneb x l this.1
    exact ⟨by show (if x = b then _ else _) = _; rw [if_neg hxb]; exact this.1,fun o => by show (if x = b then _ else _) = _; rw [if_neg hxb]; exact this.2 o⟩
  · intro i n x cp hs
    by_cases e1 : i = id ∧ n = N
    · have : (b,cap) = (x,cp) := by simpa [g',e1] using hs
      cases this
      show (if b = b then _ else _) = _
      rw [if_pos rfl,e1.1]
    · have hs' : g.sl i n = some (x,cp) := by simpa [g',e1] using hs
      have := hr.slown i n x cp hs'
      show (if x = b then _ else _) = _
      rw [if_neg (hneb x i this)]; exact this
  · intro l hl hlt
    have := hr.name l (Nat.le_trans hnext hl) hlt
    exact hnames l this (.inr hl)
  · intro l hl
    rw [hget,if_neg (by omega)]; exact hr.dom l (Nat.le_trans hnext hl)
  · intro x hx
    show (if x = b then _ else _) = _
    rw [if_neg (by omega)]; exact hr.block x (Nat.le_trans hg.size hx)
  · refine ⟨by have := hr.pos.1; omega,by rw [hget,if_neg (Ne.symm hidpos)]; exact hr.pos.2⟩
  · intro i n p hp
    by_cases e1 : i = id ∧ n = N
    · rw [e1.1]; exact hblk0
    · exact hr.slblk i n p (by simpa [g',e1] using hp)
  · intro x k hx ox hox
    by_cases e1 : x = b
    · subst e1
      rcases hrow.2 with ⟨q,_⟩ | ⟨g0,cap0,cur,q,q1,q2,q3⟩
      · cases q
      · cases q; rw [q2] at hox; cases hox; exact .inl rfl
    · have hx' : g.own x = some k := by simpa [g',e1] using hx
      have hlx : x < w.heap.size := Nat.lt_of_not_le fun hq => by rw [hr.block x hq] at hx'; cases hx'
      rw [hg.block x hlx (by simp)] at hox
      exact (hr.ownk x k hx' ox hox).imp (fun h => h) fun h => hle.blk _ _ h
  · refine .sl hcap (fun i d hd => ⟨rfl, ?_⟩) (fun _ => ⟨rfl,rfl,if_pos ⟨rfl,rfl⟩⟩)
    show (if b = b then _ else _) = _
    rw [if_pos rfl,Nat.zero_add]; exact hd
theorem R.slRoom {P : Program} {top : Nat} {g : G} {h : H} {w w' : World} (hr : R P top g h w) {id n m cap b : Nat} {e : TypeId} {cs ds : List D} {xs news : List Value}
    (htip : h.mem.get id = some (.tip n e)) (hsl : g.sl id n = some (b,cap)) (hm : 0 < m) (hcs : cs.length = n * P.cellsOf e) (hdl : ds.length = m * P.cellsOf e)
    (himm : ∀ (i : Nat) (d : D),cs[i]? = some d → g.imm b i = some d)
    (hg : w.grownBy w' (some b)) (hrow0 : w.ownsRow 0 e (P.cellsOf e) (.slice (some ⟨b,0,none⟩) n cap) n xs)
    (hrow : w'.ownsRow 0 e (P.cellsOf e) (.slice (some ⟨b,0,none⟩) (n + m) cap) (n + m) (xs ++ news)) (hroom : n + m ≤ cap) (hds : Zk g ds news) :
    ∃ g',Ext g h w g' (h.put id (.tip (n + m) e)) w' ∧ R P top g' (h.put id (.tip (n + m) e)) w' ∧ VRel g' (.sl id (n + m) (cs ++ ds)) (.slice (some ⟨b,0,none⟩) (n + m) cap) := by
  obtain ⟨b0,cap0,xs0,t1,t2,t3,t4⟩ := hr.tip id n e htip
  rw [hsl] at t1
  cases t1
  have hown := hr.slown id n b cap hsl
  have hget : ∀ l,(h.put id (.tip (n + m) e)).mem.get l = if l = id then some (.tip (n + m) e) else h.mem.get l := fun l => H.put_get _ _ _ _
  have hbl0 : b < w.heap.size := Nat.lt_of_not_le fun hq => by rw [hr.block b hq] at hown; cases hown
  have hidlt : id < h.next := Nat.lt_of_not_le fun hq => by have := hr.dom id hq; rw [this] at htip; cases htip
  have hidpos : id ≠ 0 := fun e0 => by subst e0; rw [hr.pos.2] at htip; cases htip
  let g' : G := { blk := g.blk,sl := fun i k => if i = id ∧ k = n + m then some (b,cap) else g.sl i k,own := g.own,imm := fun x o => if x = b ∧ n * P.cellsOf e ≤ o then ds[o - n * P.cellsOf e]? else g.imm x o }
  have hle : g.Le g' := ⟨fun _ _ x => x,fun l k p hp => by
      show (if l = id ∧ k = n + m then _ else _) = _
      rw [if_neg (fun e => by obtain ⟨rfl,rfl⟩ := e; rw [t4 _ (by omega)] at hp; cases hp)]; exact hp,fun x o d hd => by
      show (if x = b ∧ _ then _ else _) = _
      rw [if_neg (fun e => by obtain ⟨rfl,e2⟩ := e; rw [t3 o e2] at hd; cases hd)]; exact hd⟩
  have hds' : Zk g' ds news := hds.mono hle
  have hxl : xs.length = n * P.cellsOf e := hrow0.1
  have hdom : ∀ l,l < h.next → h.mem.get l = none → (h.put id (.tip (n + m) e)).mem.get l = none := by
    intro l hl hn
    rw [hget]
    by_cases e1 : l = id
    · subst e1; rw [hn] at htip; cases htip
    · rw [if_neg e1]; exact hn
  have hnames : ∀ l,Zf6 g l → (l < h.next ∨ (h.put id (.tip (n + m) e)).next ≤ l) → Zf6 g' l := by
    intro l hf hor
    have hne : l ≠ id := by rintro rfl; rw [hf.2.1 n] at hsl; cases hsl
    exact ⟨hf.1,fun k => by show (if l = id ∧ _ then _ else _) = _; rw [if_neg (fun q => hne q.1)]; exact hf.2.1 k,hf.2.2⟩
  refine ⟨g',⟨hle,fun x l hx => hx,fun x hx => rfl,hg.os,hg.tape,hg.output,hg.size,fun x hx hf => hg.block x hx (fun q => ?_),hdom,Nat.le_refl _,hnames,fun x hx hf o => if_neg (fun q => ?_),fun i k hn _ => if_neg (fun q => ?_)⟩,⟨?_, ?_, ?_, ?_, ?_, ?_, ?_,hr.le, ?_, ?_, ?_, ?_⟩, ?_⟩
  · cases q
    rw [hf id hown] at htip
    cases htip
  · rw [q.1] at hf
    rw [hf id hown] at htip
    cases htip
  · rw [q.1,htip] at hn
    cases hn
  · intro l o ho hn
    rw [hget] at ho
    by_cases e1 : l = id
    · rw [if_pos e1] at ho; cases ho; exact absurd rfl (hn _ _)
    · rw [if_neg e1] at ho
      obtain ⟨x,ob,h1,h2,h3⟩ := hr.obj l o ho hn
      refine ⟨x,ob,h1, ?_,h3.mono hle⟩
      rw [hg.block x (Array.getElem?_eq_some_iff.1 h2).1 (fun q => ?_)]
      · exact h2
      · cases q
        have := (hr.blkown l b h1).1
        rw [hown] at this
        cases this
        exact e1 rfl
  · intro i k e' hi
    rw [hget] at hi
    by_cases e1 : i = id
    · rw [if_pos e1] at hi
      cases hi
      subst e1
      refine ⟨b,cap,xs ++ news,if_pos ⟨rfl,rfl⟩,hrow,fun o ho => ?_,fun k hk => ?_⟩
      · rw [Nat.add_mul] at ho
        show (if b = b ∧ _ then _ else _) = _
        rw [if_pos ⟨rfl,by omega⟩]; exact List.getElem?_eq_none (by omega)
      · show (if i = i ∧ k = _ then _ else _) = _
        rw [if_neg (by omega)]; exact t4 k (by omega)
    · rw [if_neg e1] at hi
      obtain ⟨x,cp,ys,h1,h2,h3,h4⟩ := hr.tip i k e' hi
      have hx : x ≠ b := fun q => by
        subst q
        have := hr.slown _ _ _ _ h1
        rw [hown] at this
        cases this
        exact e1 rfl
      refine ⟨x,cp,ys,hle.sl _ _ _ h1,h2.kept hg (.inr (by simpa [Value.ownBlock] using hx)),fun o ho => ?_,fun k hk => ?_⟩
      · show (if x = b ∧ _ then _ else _) = _
        rw [if_neg (fun q => hx q.1)]; exact h3 o ho
      · show (if i = id ∧ _ then _ else _) = _
        rw [if_neg (fun q => e1 q.1)]; exact h4 k hk
  · intro x o d hd
    by_cases ex : x = b ∧ n * P.cellsOf e ≤ o
    · have hd' : ds[o - n * P.cellsOf e]? = some d := by simpa [g',ex] using hd
      obtain ⟨v,hv,hvr⟩ := hds'.some hd'
      refine ⟨v, ?_,hvr⟩
      rw [ex.1]
      refine Zad hrow ?_
      rw [List.getElem?_append_right (by omega),hxl]; exact hv
    · have hd' : g.imm x o = some d := by simpa [g',ex] using hd
      obtain ⟨v,hv,hvr⟩ := hr.imm x o d hd'
      by_cases exb : x = b
      · subst exb
        have ho : o < n * P.cellsOf e := Nat.lt_of_not_le fun q => ex ⟨rfl,q⟩
        have hx : xs[o]? = some v := by
          obtain ⟨u,hu⟩ : ∃ u,xs[o]? = some u := ⟨xs[o],List.getElem?_eq_getElem (by omega)⟩
          rw [Zad hrow0 hu] at hv
          rw [hu,hv]
        refine ⟨v,Zad hrow ?_,hvr.mono hle⟩
        rw [List.getElem?_append_left (by omega)]; exact hx
      · exact ⟨v,hg.cell hv (by simpa using exb),hvr.mono hle⟩
  · intro l x hx
    have := hr.blkown l x hx
    refine ⟨this.1,fun o => ?_⟩
    show (if x = b ∧ _ then _ else _) = _
    rw [if_neg (fun q => ?_)]
    · exact this.2 o
    · have h1 := this.1
      rw [q.1,hown] at h1
      cases h1
      have := hr.slblk id n _ hsl
      rw [this] at hx
      cases hx
  · intro i k x cp hs
    by_cases e1 : i = id ∧ k = n + m
    · have : (b,cap) = (x,cp) := by simpa [g',e1] using hs
      cases this
      rw [e1.1]; exact hown
    · have hs' : g.sl i k = some (x,cp) := by simpa [g',e1] using hs
      exact hr.slown i k x cp hs'
  · intro l hl hlt
    exact hnames l (hr.name l hl hlt) (.inr hl)
  · intro l hl
    have : h.next ≤ l := hl
    rw [hget,if_neg (by omega)]; exact hr.dom l hl
  · exact fun x hx => hr.block x (Nat.le_trans hg.size hx)
  · exact ⟨hr.pos.1,by rw [hget,if_neg (Ne.symm hidpos)]; exact hr.pos.2⟩
  · intro i k p hp
    by_cases e1 : i = id ∧ k = n + m
    · rw [e1.1]; exact hr.slblk id n _ hsl
    · exact hr.slblk i k p (by simpa [g',e1] using hp)
  · intro x k hx ox hox
    by_cases e1 : x = b
    · subst e1
      rcases hrow.2 with ⟨q,_⟩ | ⟨g0,cap0,cur,q,q1,q2,q3⟩
      · cases q
      · cases q; rw [q2] at hox; cases hox; exact .inl rfl
    · have hlx : x < w.heap.size := Nat.lt_of_not_le fun hq => by rw [hr.block x hq] at hx; cases hx
      rw [hg.block x hlx (fun ee => e1 (by cases ee; rfl))] at hox
      exact (hr.ownk x k hx ox hox).imp (fun h => h) fun h => hle.blk _ _ h
  · refine .sl hroom (fun i d hd => ⟨rfl, ?_⟩) (fun _ => ⟨rfl,rfl,if_pos ⟨rfl,rfl⟩⟩)
    show (if b = b ∧ n * P.cellsOf e ≤ 0 + i then _ else _) = _
    rw [Nat.zero_add]
    by_cases hi : n * P.cellsOf e ≤ i
    · rw [if_pos ⟨rfl,hi⟩]
      rw [List.getElem?_append_right (by omega),hcs] at hd; exact hd
    · rw [if_neg (fun q => hi q.2)]
      rw [List.getElem?_append_left (by omega)] at hd
      exact himm i d hd
theorem R.immNew {P : Program} {top : Nat} {g : G} {h : H} {w w' : World} (hr : R P top g h w) {b : Nat} {ds : List D} {xs : List Value}
    (hg : w.grownBy w' none) (hb : w.heap.size ≤ b) (hcell : ∀ o v,xs[o]? = some v → w'.cell? ⟨b,o,none⟩ = some v) (hds : Zk g ds xs) :
    ∃ g',Ext g h w g' h w' ∧ R P top g' h w' ∧ (∀ (i : Nat) (d : D),ds[i]? = some d → g'.imm b i = some d) := by
  let g' : G := { g with imm := fun x o => if x = b then ds[o]? else g.imm x o }
  have hle : g.Le g' := ⟨fun _ _ x => x,fun _ _ _ x => x,fun x o d hd => by
      show (if x = b then _ else _) = _
      rw [if_neg (fun e => by subst e; rw [hr.imm_new hb] at hd; cases hd)]; exact hd⟩
  have hneb : ∀ x l,g.own x = some l → x ≠ b := fun x l hx e => by subst e; rw [hr.block _ hb] at hx; cases hx
  refine ⟨g',⟨hle,fun x l hx => hx,fun x hx => rfl,hg.os,hg.tape,hg.output,hg.size,fun x hx _ => hg.block x hx (by simp),fun l _ hn => hn,Nat.le_refl _,fun _ x _ => x,fun x hx _ o => if_neg (fun e => by omega),fun _ _ _ _ => rfl⟩,⟨?_, ?_, ?_, ?_,hr.slown,hr.name,hr.dom,hr.le,fun x hx => hr.block x (Nat.le_trans hg.size hx),hr.pos,hr.slblk,fun x k hx ox hox => (hr.ownk x k hx ox (by rw [← hox]; exact (hg.block x (Nat.lt_of_not_le fun hq => by rw [hr.block x hq] at hx; cases hx) (by simp)).symm)).imp (fun h => h) fun h => h⟩,fun i d hd => ?_⟩
  · intro l o ho hn
    obtain ⟨x,ob,h1,h2,h3⟩ := hr.obj l o ho hn
    exact ⟨x,ob,h1,by rw [hg.block x (Array.getElem?_eq_some_iff.1 h2).1 (by simp)]; exact h2,h3.mono hle⟩
  · intro i n e' hi
    obtain ⟨x,cp,ys,h1,h2,h3,h4⟩ := hr.tip i n e' hi
    refine ⟨x,cp,ys,h1,h2.kept hg (.inr (by simp [Value.ownBlock])),fun o ho => ?_,h4⟩
    show (if x = b then _ else _) = _
    rw [if_neg (hneb x i (hr.slown _ _ _ _ h1))]; exact h3 o ho
  · intro x o d hd
    by_cases ex : x = b
    · subst ex
      have hd' : ds[o]? = some d := by simpa [g'] using hd
      obtain ⟨v,hv,hvr⟩ := (hds.mono hle).some hd'
      exact ⟨v,hcell o v hv,hvr⟩
    · have hd' : g.imm x o = some d := by simpa [g',ex] using hd
      obtain ⟨v,hv,hvr⟩ := hr.imm x o d hd'
      exact ⟨v,hg.cell hv (by simp),hvr.mono hle⟩
  · intro l x hx
    have := hr.blkown l x hx
    have hxb := hneb x l this.1
    exact ⟨this.1,fun o => by show (if x = b then _ else _) = _; rw [if_neg hxb]; exact this.2 o⟩
  · show (if b = b then _ else _) = _
    rw [if_pos rfl]; exact hd
theorem Xb (b o j : Nat) : (⟨b,o,none⟩ : Addr).add j = ⟨b,o + j,none⟩ := by unfold Addr.add; split <;> simp_all
theorem WF {P : Program} {top : Nat} {g : G} {h : H} {w : World} (hr : R P top g h w) {a : D} {n : Nat} {cs : List D} (hc : Z3 h a n = some cs) {x : Value} (hx : VRel g a x) :
    ∃ b o vs,x = .pointer (some ⟨b,o,none⟩) ∧ Zk g cs vs ∧ vs.length = n ∧ ∀ j v,vs[j]? = some v → w.cell? ⟨b,o + j,none⟩ = some v := by
  cases a <;> simp only [Z3] at hc <;> try (simp at hc; done)
  · rename_i l off
    cases hx with
    | ptr hb =>
      rename_i b
      cases hm : h.mem.get l with
      | none => simp [hm] at hc
      | some o =>
        cases o <;> simp only [hm] at hc <;> try (simp at hc; done)
        rename_i t ds
        cases hq : Nat.beq (List.take n (List.drop off ds)).length n with
        | false => rw [hq] at hc; cases hc
        | true =>
          simp only [hq,cond_true,Option.some.injEq] at hc
          subst hc
          obtain ⟨b',ob,h1,h2,h3⟩ := hr.obj l _ hm (by simp)
          rw [hb] at h1
          cases h1
          cases h3 with
          | cells hv =>
            rename_i c
            refine ⟨b,off,(c.toList.drop off).take n,rfl,(hv.drop off).take n, ?_,fun j v hj => ?_⟩
            · rw [← ((hv.drop off).take n).1]; exact Nat.eq_of_beq_eq_true hq
            · rw [List.getElem?_take] at hj
              split at hj
              · rw [List.getElem?_drop] at hj
                rw [cell_of_row w b (off + j) c t (0,0) h2]; simpa using hj
              · cases hj
  · rename_i ds
    cases hx with
    | ep hi =>
      rename_i b o
      cases hq : Nat.beq (List.take n ds).length n with
      | false => rw [hq] at hc; cases hc
      | true =>
        simp only [hq,cond_true,Option.some.injEq] at hc
        subst hc
        have hlen : (List.take n ds).length = n := Nat.eq_of_beq_eq_true hq
        have hex : ∀ j,j < n → ∃ d v,ds[j]? = some d ∧ w.cell? ⟨b,o + j,none⟩ = some v ∧ VRel g d v := fun j hj => by
          have hjl : j < ds.length := by simp at hlen; omega
          obtain ⟨v,hv,hvr⟩ := hr.imm b (o + j) ds[j] (hi j _ (List.getElem?_eq_getElem hjl))
          exact ⟨ds[j],v,List.getElem?_eq_getElem hjl,hv,hvr⟩
        refine ⟨b,o,(List.range n).map fun j => (w.cell? ⟨b,o + j,none⟩).getD default,rfl,⟨by rw [hlen]; simp,fun j d v hd hv => ?_⟩,by simp,fun j v hj => ?_⟩
        · have hj : j < n := by have := (List.getElem?_eq_some_iff.1 hd).1; omega
          obtain ⟨d',v',h1,h2,h3⟩ := hex j hj
          rw [List.getElem?_take_of_lt hj,h1] at hd
          cases hd
          simp [hj,h2] at hv
          subst hv
          exact h3
        · have hjn : j < n := by have := (List.getElem?_eq_some_iff.1 hj).1; simpa using this
          obtain ⟨d',v',h1,h2,h3⟩ := hex j hjn
          simp [hjn,h2] at hj
          subst hj
          exact h2
end
end Go.Abs
