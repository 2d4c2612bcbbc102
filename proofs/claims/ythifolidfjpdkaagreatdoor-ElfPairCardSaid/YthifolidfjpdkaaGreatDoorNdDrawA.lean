/- Towards regions in open order: the relation without the supply of names; what an operation looks at. -/
import Derived.Test.YthifolidfjpdkaaGreatDoorNdRel
import Derived.Test.YthifolidfjpdkaaGreatDoorNdRun
import Derived.Test.YthifolidfjpdkaaGreatDoorNdCode
set_option linter.unusedVariables false
set_option linter.unusedSimpArgs false
namespace Go.Abs
noncomputable section
structure C (P : Program) (g : G) (mem : Nat → Option AObj) (w : World) : Prop where
  obj : ∀ l o,mem l = some o → (∀ n e,o ≠ .tip n e) → ∃ b ob,g.blk l = some b ∧ w.heap[b]? = some ob ∧ Lies g o ob
  tip : ∀ id n e,mem id = some (.tip n e) → ∃ b cap xs,g.sl id n = some (b,cap) ∧ w.ownsRow 0 e (P.cellsOf e) (.slice (some ⟨b,0,none⟩) n cap) n xs ∧
    (∀ o,n * P.cellsOf e ≤ o → g.imm b o = none) ∧ (∀ k,n < k → g.sl id k = none)
  imm : ∀ b o d,g.imm b o = some d → ∃ v,w.cell? ⟨b,o,none⟩ = some v ∧ VRel g d v
  blkown : ∀ l b,g.blk l = some b → g.own b = some l ∧ ∀ o,g.imm b o = none
  slown : ∀ id n b cap,g.sl id n = some (b,cap) → g.own b = some id
  block : ∀ b,w.heap.size ≤ b → g.own b = none
  zero : mem 0 = none
  slblk : ∀ id n p,g.sl id n = some p → g.blk id = none
  ownk : ∀ b l,g.own b = some l → ∀ ob,w.heap[b]? = some ob → Zpk ob = true ∨ g.blk l = some b
section
variable {P : Program} {top : Nat} {g g' : G} {h h' : H} {w w' : World} {mem : Nat → Option AObj}
theorem R.toC (hr : R P top g h w) : C P g h.mem.get w := ⟨hr.obj,hr.tip,hr.imm,hr.blkown,hr.slown,hr.block,hr.pos.2,hr.slblk,hr.ownk⟩
theorem C.toR (hc : C P g mem w) (hsub : ∀ l o,h.mem.get l = some o → mem l = some o) (hname : ∀ l,h.next ≤ l → l < top → Zf6 g l) (hdom : ∀ l,h.next ≤ l → h.mem.get l = none) (hle : h.next ≤ top) (hpos : 0 < h.next) : R P top g h w :=
  ⟨fun l o ho hn => hc.obj l o (hsub l o ho) hn,fun id n e hi => hc.tip id n e (hsub _ _ hi),hc.imm,hc.blkown,hc.slown,hname,hdom,hle,hc.block,⟨hpos,by
    cases h0 : h.mem.get 0 with
    | none => rfl
    | some o => have := hsub 0 o h0; rw [hc.zero] at this; cases this⟩,hc.slblk,hc.ownk⟩
theorem C.mapped (hc : C P g mem w) {l : Nat} {o : AObj} (ho : mem l = some o) : ¬ Zf6 g l := by
  intro hf
  by_cases ht : ∃ n e,o = .tip n e
  · obtain ⟨n,e,rfl⟩ := ht
    obtain ⟨_,_,_,h1,_⟩ := hc.tip l n e ho
    rw [hf.2.1 n] at h1; cases h1
  · obtain ⟨b,ob,h1,_⟩ := hc.obj l o ho (fun n e he => ht ⟨n,e,he⟩)
    rw [hf.1] at h1; cases h1
theorem C.world (hc : C P g mem w) (hh : w'.heap = w.heap) : C P g mem w' := by
  have hcl : ∀ a,w'.cell? a = w.cell? a := fun a => by simp [World.cell?,hh]
  refine ⟨fun l o ho hn => ?_,fun id n e hi => ?_,fun b o d hd => ?_,hc.blkown,hc.slown,fun b hb => hc.block b (by rwa [hh] at hb),hc.zero,hc.slblk,fun b l hb ob hob => hc.ownk b l hb ob (by rwa [hh] at hob)⟩
  · rw [hh]; exact hc.obj l o ho hn
  · obtain ⟨b,cap,xs,h1,h2,h3,h4⟩ := hc.tip id n e hi
    exact ⟨b,cap,xs,h1,by unfold World.ownsRow at h2 ⊢; rw [hh]; exact h2,h3,h4⟩
  · rw [hcl]; exact hc.imm b o d hd
def UE (mem : Nat → Option AObj) (h h' : H) (l : Nat) : Option AObj :=
  match h'.mem.get l with
  | some o => some o
  | none => match h.mem.get l with
    | some _ => none
    | none => mem l
theorem C.merge (hc : C P g mem w) (hr : R P top g h w) (hE : Ext g h w g' h' w') (hr' : R P top g' h' w') : C P g' (UE mem h h') w' := by
  have key : ∀ l o,UE mem h h' l = some o → h'.mem.get l = some o ∨ (h'.mem.get l = none ∧ h.mem.get l = none ∧ mem l = some o) := by
    intro l o hl
    unfold UE at hl
    split at hl
    · rename_i o' ho; cases hl; exact .inl ho
    · rename_i h1
      split at hl
      · cases hl
      · rename_i h2; exact .inr ⟨h1,h2,hl⟩
  refine ⟨fun l o ho hn => ?_,fun id n e hi => ?_,hr'.imm,hr'.blkown,hr'.slown,hr'.block, ?_,hr'.slblk,hr'.ownk⟩
  · rcases key l o ho with h1 | ⟨h1,h2,h3⟩
    · exact hr'.obj l o h1 hn
    · obtain ⟨b,ob,k1,k2,k3⟩ := hc.obj l o h3 hn
      refine ⟨b,ob,hE.le.blk _ _ k1, ?_,k3.mono hE.le⟩
      rw [hE.fr b (Array.getElem?_eq_some_iff.1 k2).1 (fun l' hl' => ?_)]
      · exact k2
      · rw [(hc.blkown l b k1).1] at hl'; cases hl'; exact h2
  · rcases key id _ hi with h1 | ⟨h1,h2,h3⟩
    · exact hr'.tip id n e h1
    · obtain ⟨b,cap,xs,k1,k2,k3,k4⟩ := hc.tip id n e h3
      have hown := hc.slown id n b cap k1
      have hbl : b < w.heap.size := Nat.lt_of_not_le fun hq => by rw [hc.block b hq] at hown; cases hown
      have hfr : ∀ l',g.own b = some l' → h.mem.get l' = none := fun l' hl' => by rw [hown] at hl'; cases hl'; exact h2
      have hb := hE.fr b hbl hfr
      have hor : id < h.next ∨ h'.next ≤ id := by
        by_cases q1 : id < h.next
        · exact .inl q1
        · by_cases q2 : h'.next ≤ id
          · exact .inr q2
          · exact absurd (hr.name id (by omega) (by have := hr'.le; omega)) (hc.mapped h3)
      refine ⟨b,cap,xs,hE.le.sl _ _ _ k1, ?_,fun o ho => by rw [hE.immfr b hbl hfr]; exact k3 o ho,fun k hk => by rw [hE.slfr id k h2 hor]; exact k4 k hk⟩
      rcases k2.2 with ⟨q,_⟩ | ⟨g0,cap0,cur,q,q1,q2,q3⟩
      · cases q
      · cases q
        exact ⟨k2.1,.inr ⟨b,cap,cur,rfl,q1,by rw [hb]; exact q2,q3⟩⟩
  · unfold UE
    rw [hr'.pos.2]
    simp only [hr.pos.2,hc.zero]
theorem Zcn {a b : AAct} : ∀ {xs : List Opd},(∀ x ∈ xs,a.eval x = b.eval x) → a.evals xs = b.evals xs
  | [],_ => rfl
  | x :: xs,hq => by simp only [AAct.evals]; rw [hq x (by simp),Zcn fun y hy => hq y (by simp [hy])]
theorem Zhw {a b : AAct} : ∀ {ps : List (Nat × Nat × Opd)} {cs : List D},(∀ p ∈ ps,a.eval p.2.2 = b.eval p.2.2) → Zbq a cs ps = Zbq b cs ps
  | [],_,_ => rfl
  | (off,size,x) :: ps,cs,hq => by
    simp only [Zbq]
    rw [hq (off,size,x) (by simp)]
    cases hb : Nat.beq (b.eval x).cells.length size with
    | false => rfl
    | true =>
      simp only [cond_true]
      split
      · exact Zhw fun p hp => hq p (by simp [hp])
      · rfl
theorem Zb0 {a b : AAct} {x : Option Opd} (hq : ∀ y ∈ Z7y x,a.eval y = b.eval y) : x.map a.eval = x.map b.eval := by
  cases x with
  | none => rfl
  | some x => simp [hq x (by simp [Z7y])]
theorem Zrh {c : COp} {E : Env} {call : Call} {a b : AAct} {h : H} (hq : ∀ x ∈ Zus c,a.eval x = b.eval x) : Vh c E call a h = Vh c E call b h := by
  cases c <;> simp only [Zus,List.mem_cons,List.not_mem_nil,or_false,forall_eq_or_imp,forall_eq,List.mem_append,List.mem_map] at hq <;>
    simp only [Vh,Zsc,Ziz,Zge,Zdo,Zj6,Za0,U6,Zhk,Zhj,Zpx,Xs,Zmh,Zey,Zgh,Zd4,Zbw,Zgg,U5,Zi0,Zdn,Za3,Zb7,Za1,Zb8,Zi1,Zd6,Zfc,Zfb,Za5,Za4,U7,Za2,Zb9,Zex,Zdp,UR,Zew,Zfd,Zca,Zd5,Zfa,Zlh,Zse,US,Zob,Zuj,Zhl,Zgi]
  case build z ps => rw [Zhw fun p hp => hq _ ⟨p,hp,rfl⟩]
  case buildSl e n z ps => rw [Zhw fun p hp => hq _ ⟨p,hp,rfl⟩]
  case mkf fn xs ys => rw [Zcn fun x hx => hq x (.inl hx),Zcn fun x hx => hq x (.inr hx)]
  case slstr x lo hi => rw [hq.1,Zb0 fun y hy => hq.2 y (.inl hy),Zb0 fun y hy => hq.2 y (.inr hy)]
  case slsl n x lo hi => rw [hq.1,Zb0 fun y hy => hq.2 y (.inl hy),Zb0 fun y hy => hq.2 y (.inr hy)]
  case slarr n s x lo hi => rw [hq.1,Zb0 fun y hy => hq.2 y (.inl hy),Zb0 fun y hy => hq.2 y (.inr hy)]
  case call f xs => rw [hq.1,Zcn fun x hx => hq.2 x hx]
  case bi b ts t cs xs => rw [Zcn fun x hx => hq x hx]
  all_goals first | rfl | (simp only [hq]) | (rw [hq.1,hq.2]) | (rw [hq.1,hq.2.1,hq.2.2])
theorem Zfy {c : COp} {E : Env} {call : Call} {a : AAct} {h h' : H} {d : D} (hk : Zq c = .pure ∨ Zq c = .alloc) (hrun : Vh c E call a h = .ok d h') :
    ∃ K',Vh c E call a ⟨h.next,.nil⟩ = .ok d K' ∧ K'.next = h'.next ∧ (∀ l o,K'.mem.get l = some o → h.next ≤ l ∧ l < h'.next) ∧ (Zq c = .pure → h' = h) ∧ ∀ l,h'.mem.get l = match K'.mem.get l with
      | some o => some o
      | none => h.mem.get l := by
  cases c <;> simp only [Zq,reduceCtorEq,or_self,or_false,false_or] at hk
  all_goals
    simp only [Vh,Zsc,Ziz,Zge,Zdo,Zj6,Za0,U6,Xs,Zmh,Zey,Zgh,Zd4,Zgg,U5,Zi0,Zdn,Za3,Zb7,Za1,Zb8,Zi1,Zd6,Zfc,Zfb,Za5,Za4,Zew,Zfd,Zca,Zd5,Zse,Zbl,H.new,Bool.cond_eq_ite] at hrun ⊢
    repeat' split at hrun
  all_goals first | (cases hrun; done) | skip
  all_goals cases hrun
  all_goals (try simp only [*,if_true,if_false,Bool.false_eq_true])
  all_goals (refine ⟨_,rfl,rfl, ?_, ?_, ?_⟩)
  all_goals first
    | (intro _; trivial)
    | (intro _; rfl)
    | (intro hp; simp [Zq] at hp; done)
    | (intro l; rfl)
    | (intro l o hl
       have hl' : Tr.nil.get l = some o := hl
       rw [Tr.get_nil] at hl'
       cases hl')
    | (intro l o hl
       rw [Tr.get_set,Tr.get_nil] at hl
       split at hl
       · rename_i e; subst e; exact ⟨Nat.le_refl _,Nat.lt_succ_self _⟩
       · cases hl)
    | (intro l
       by_cases e : l = h.next <;> simp [Tr.get_set,Tr.get_nil,e])
end
end
end Go.Abs
namespace Go.Abs
noncomputable section
inductive StepOk (E : Env) (call : Call) (idx : Nat) (inc : List Nat) (o : CO) (a : AAct) (h : H) (rs : List Rec) (a' : AAct) (h' : H) (rs' : List Rec) : Prop
  | skip : Zn a o = false → a' = a.put o.dst ZD → h' = h → rs' = rs → StepOk E call idx inc o a h rs a' h' rs'
  | read (d x : D) (k : Nat) (cs : List D) : Zn a o = true → UO E call a o.op h = .ok d h' → a' = a.put o.dst d → YA a o.op = some (x,k) → Z3 h x k = some cs → XA inc x cs rs = true → rs' = .rd idx x cs :: rs →
      StepOk E call idx inc o a h rs a' h' rs'
  | loud (d : D) : Zn a o = true → UO E call a o.op h = .ok d h' → a' = a.put o.dst d → YA a o.op = none → Y8 o.op = true → YJ inc h' rs = true → rs' = .loud idx h :: rs → StepOk E call idx inc o a h rs a' h' rs'
  | quiet (d : D) : Zn a o = true → UO E call a o.op h = .ok d h' → a' = a.put o.dst d → YA a o.op = none → Y8 o.op = false → rs' = rs → StepOk E call idx inc o a h rs a' h' rs'
theorem Ztr {E : Env} {call : Call} : ∀ (l : List CO) (i : Nat) (recs : List Rec) (Zr : List (List Nat)) {a a' : AAct} {h h' : H} {e : AExit},Yk E call i recs Zr l a h = .out e a' h' →
    e = .normal ∧ ∃ (aT : Nat → AAct) (hT : Nat → H) (rT : Nat → List Rec),aT 0 = a ∧ hT 0 = h ∧ rT 0 = recs ∧ aT l.length = a' ∧ hT l.length = h' ∧
      ∀ j o,l[j]? = some o → StepOk E call (i + j) (Zr.getD j []) o (aT j) (hT j) (rT j) (aT (j + 1)) (hT (j + 1)) (rT (j + 1))
  | [],i,recs,Zr,a,a',h,h',e,hrun => by
    simp only [Yk] at hrun
    cases hrun
    exact ⟨rfl,fun _ => a,fun _ => h,fun _ => recs,rfl,rfl,rfl,rfl,rfl,fun j o hj => by simp at hj⟩
  | o :: l,i,recs,[],a,a',h,h',e,hrun => by simp only [Yk] at hrun; cases hrun
  | o :: l,i,recs,inc :: Zr,a,a',h,h',e,hrun => by
    have glue : ∀ {a1 : AAct} {h1 : H} {r1 : List Rec},StepOk E call i inc o a h recs a1 h1 r1 → Yk E call (i + 1) r1 Zr l a1 h1 = .out e a' h' →
        e = .normal ∧ ∃ (aT : Nat → AAct) (hT : Nat → H) (rT : Nat → List Rec),aT 0 = a ∧ hT 0 = h ∧ rT 0 = recs ∧ aT (o :: l).length = a' ∧ hT (o :: l).length = h' ∧
          ∀ j o',(o :: l)[j]? = some o' → StepOk E call (i + j) ((inc :: Zr).getD j []) o' (aT j) (hT j) (rT j) (aT (j + 1)) (hT (j + 1)) (rT (j + 1)) := by
      intro a1 h1 r1 hs hr
      obtain ⟨he,aT,hT,rT,e1,e2,e3,e4,e5,hall⟩ := Ztr l (i + 1) r1 Zr hr
      refine ⟨he,fun k => match k with | 0 => a | k + 1 => aT k,fun k => match k with | 0 => h | k + 1 => hT k,fun k => match k with | 0 => recs | k + 1 => rT k,rfl,rfl,rfl,e4,e5,fun j o' hj => ?_⟩
      cases j with
      | zero =>
        simp at hj; subst hj
        simp only [e1,e2,e3]
        exact hs
      | succ j =>
        have := hall j o' (by simpa using hj)
        rw [show i + (j + 1) = i + 1 + j by omega]
        exact this
    simp only [Yk,Bool.cond_eq_ite] at hrun
    split at hrun
    · rename_i hw
      split at hrun
      · rename_i d h2 hc
        split at hrun
        · rename_i x k hrd
          split at hrun
          · rename_i cs hcs
            split at hrun
            · rename_i hok
              exact glue (.read d x k cs hw hc rfl hrd hcs hok rfl) hrun
            · cases hrun
          · cases hrun
        · rename_i hrd
          split at hrun
          · rename_i hl
            split at hrun
            · rename_i hok
              exact glue (.loud d hw hc rfl hrd hl hok rfl) hrun
            · cases hrun
          · rename_i hl
            exact glue (.quiet d hw hc rfl hrd (by simpa using hl) rfl) hrun
      · split at hrun <;> cases hrun
      · cases hrun
    · rename_i hw
      exact glue (.skip (by simpa using hw) rfl rfl rfl) hrun
theorem Zvb {i : Nat} : ∀ {Zr : List (List Nat)} {j : Nat},later i Zr = true → j < Zr.length → Ya i (Zr.getD j []) = false
  | [],j,_,hj => by simp at hj
  | inc :: r,j,h,hj => by
    simp only [later,Bool.and_eq_true,Bool.not_eq_true'] at h
    cases j with
    | zero => exact h.1
    | succ j => simpa using Zvb (j := j) h.2 (by simpa using hj)
theorem Zqc {E : Env} {call : Call} {d : D} : ∀ (l : List CO) (i : Nat) (recs : List Rec) (Zr : List (List Nat)) {a a' : AAct} {h h' : H},Yk E call i recs Zr l a h = .panic d a' h' →
    ∃ (B : Nat) (aT : Nat → AAct) (hT : Nat → H) (rT : Nat → List Rec) (c : CO),aT 0 = a ∧ hT 0 = h ∧ rT 0 = recs ∧ l[B]? = some c ∧ aT B = a' ∧ Zn (aT B) c = true ∧ UO E call (aT B) c.op (hT B) = .panic d h' ∧ Y8 c.op = true ∧
      (∀ j,B < j → j < Zr.length → Ya (i + B) (Zr.getD j []) = false) ∧ (a'.defers = [] ∨ Zr.getD B [] = []) ∧
      ∀ j o,j < B → l[j]? = some o → StepOk E call (i + j) (Zr.getD j []) o (aT j) (hT j) (rT j) (aT (j + 1)) (hT (j + 1)) (rT (j + 1))
  | [],i,recs,Zr,a,a',h,h',hrun => by simp only [Yk] at hrun; cases hrun
  | o :: l,i,recs,[],a,a',h,h',hrun => by simp only [Yk] at hrun; cases hrun
  | o :: l,i,recs,inc :: Zr,a,a',h,h',hrun => by
    have glue : ∀ {a1 : AAct} {h1 : H} {r1 : List Rec},StepOk E call i inc o a h recs a1 h1 r1 → Yk E call (i + 1) r1 Zr l a1 h1 = .panic d a' h' →
        ∃ (B : Nat) (aT : Nat → AAct) (hT : Nat → H) (rT : Nat → List Rec) (c : CO),aT 0 = a ∧ hT 0 = h ∧ rT 0 = recs ∧ (o :: l)[B]? = some c ∧ aT B = a' ∧ Zn (aT B) c = true ∧ UO E call (aT B) c.op (hT B) = .panic d h' ∧ Y8 c.op = true ∧
          (∀ j,B < j → j < (inc :: Zr).length → Ya (i + B) ((inc :: Zr).getD j []) = false) ∧ (a'.defers = [] ∨ (inc :: Zr).getD B [] = []) ∧
          ∀ j o',j < B → (o :: l)[j]? = some o' → StepOk E call (i + j) ((inc :: Zr).getD j []) o' (aT j) (hT j) (rT j) (aT (j + 1)) (hT (j + 1)) (rT (j + 1)) := by
      intro a1 h1 r1 hs hr
      obtain ⟨B,aT,hT,rT,c,e1,e2,e3,e4,e5,e6,e7,e8,e9,e10,hall⟩ := Zqc l (i + 1) r1 Zr hr
      refine ⟨B + 1,fun k => match k with | 0 => a | k + 1 => aT k,fun k => match k with | 0 => h | k + 1 => hT k,fun k => match k with | 0 => recs | k + 1 => rT k,c,rfl,rfl,rfl,by simpa using e4,e5,e6,e7,e8,fun j hj hlen => ?_,by simpa using e10,fun j o' hjB hj => ?_⟩
      · cases j with
        | zero => omega
        | succ j =>
          have := e9 j (by omega) (by simpa using hlen)
          rw [show i + (B + 1) = i + 1 + B by omega]
          simpa using this
      · cases j with
        | zero =>
          simp at hj; subst hj
          simp only [e1,e2,e3]
          exact hs
        | succ j =>
          have := hall j o' (by omega) (by simpa using hj)
          rw [show i + (j + 1) = i + 1 + j by omega]
          exact this
    simp only [Yk,Bool.cond_eq_ite] at hrun
    split at hrun
    · rename_i hw
      split at hrun
      · rename_i d2 h2 hc
        split at hrun
        · rename_i x k hrd
          split at hrun
          · rename_i cs hcs
            split at hrun
            · rename_i hok
              exact glue (.read d2 x k cs hw hc rfl hrd hcs hok rfl) hrun
            · cases hrun
          · cases hrun
        · rename_i hrd
          split at hrun
          · rename_i hl
            split at hrun
            · rename_i hok
              exact glue (.loud d2 hw hc rfl hrd hl hok rfl) hrun
            · cases hrun
          · rename_i hl
            exact glue (.quiet d2 hw hc rfl hrd (by simpa using hl) rfl) hrun
      · rename_i d2 h2 hc
        split at hrun
        · rename_i hcond
          cases hrun
          simp only [Bool.and_eq_true,Bool.or_eq_true] at hcond
          refine ⟨0,fun _ => a,fun _ => h,fun _ => recs,o,rfl,rfl,rfl,rfl,rfl,hw,hc,hcond.1.1,fun j hj hlen => ?_, ?_,fun j o' hj => by omega⟩
          · cases j with
            | zero => omega
            | succ j => simpa using Zvb (j := j) hcond.1.2 (by simpa using hlen)
          · refine hcond.2.imp (fun h => ?_) fun h => ?_
            · cases hd : a.defers with
              | nil => rfl
              | cons _ _ => rw [hd] at h; cases h
            · cases inc with
              | nil => rfl
              | cons _ _ => cases h
        · cases hrun
      · cases hrun
    · rename_i hw
      exact glue (.skip (by simpa using hw) rfl rfl rfl) hrun
theorem Vf {c : COp} {E : Env} {call : Call} {a : AAct} {h h' : H} {d : D} (hk : Zq c = .load ∨ Zq c = .reads ∨ Zq c = .mreads) (hrun : Vh c E call a h = .ok d h') : h' = h := by
  cases c <;> simp only [Zq,reduceCtorEq,or_self,or_false,false_or] at hk
  all_goals
    simp only [Vh,Zhk,Zhj,Zbw,U7,Zb9,Zfa,Bool.cond_eq_ite] at hrun
    repeat' split at hrun
  all_goals first | (cases hrun; done) | (cases hrun; rfl)
theorem Zjd {inc : List Nat} {x : D} {cs : List D} : ∀ {rs : List Rec},XA inc x cs rs = true → ∀ i h,Rec.loud i h ∈ rs → Ya i inc = true → ∃ ds,Z3 h x cs.length = some ds ∧ ZR cs ds = true
  | [],_,i,h,hm,_ => by simp at hm
  | r :: rs,hok,i,h,hm,hi => by
    cases r with
    | rd j y ys =>
      simp only [XA] at hok
      simp at hm
      exact Zjd hok i h hm hi
    | loud j k =>
      simp only [XA,Bool.and_eq_true] at hok
      simp at hm
      rcases hm with ⟨rfl,rfl⟩ | hm
      · have h1 := hok.1
        rw [hi] at h1
        simp only [Bool.not_true,Bool.false_or] at h1
        split at h1
        · rename_i ds hds; exact ⟨ds,hds,h1⟩
        · cases h1
      · exact Zjd hok.2 i h hm hi
theorem Zjn {inc : List Nat} {h : H} : ∀ {rs : List Rec},YJ inc h rs = true → ∀ i x cs,Rec.rd i x cs ∈ rs → Ya i inc = true → ∃ ds,Z3 h x cs.length = some ds ∧ ZR cs ds = true
  | [],_,i,x,cs,hm,_ => by simp at hm
  | r :: rs,hok,i,x,cs,hm,hi => by
    cases r with
    | loud j k =>
      simp only [YJ] at hok
      simp at hm
      exact Zjn hok i x cs hm hi
    | rd j y ys =>
      simp only [YJ,Bool.and_eq_true] at hok
      simp at hm
      rcases hm with ⟨rfl,rfl,rfl⟩ | hm
      · have h1 := hok.1
        rw [hi] at h1
        simp only [Bool.not_true,Bool.false_or] at h1
        split at h1
        · rename_i ds hds; exact ⟨ds,hds,h1⟩
        · cases h1
      · exact Zjn hok.2 i x cs hm hi
theorem Z24 {a b : Value} (hs : Z25 a b = true) : a = b := by
  unfold Z25 at hs
  split at hs
  · simp only [Bool.and_eq_true] at hs; rw [Nat.eq_of_beq_eq_true hs.1,Nat.eq_of_beq_eq_true hs.2]
  · rfl
  · rfl
  · rfl
  · rfl
  · rename_i x y; cases x <;> cases y <;> simp_all
  · cases hs
theorem Zv4 : ∀ {a b : List Nat},UQ a b = true → a = b
  | [],[],_ => rfl
  | [],y :: b,h => by simp [UQ] at h
  | x :: a,[],h => by simp [UQ] at h
  | x :: a,y :: b,h => by
    simp only [UQ,Bool.and_eq_true] at h
    rw [Nat.eq_of_beq_eq_true h.1,Zv4 h.2]
mutual
theorem Zga : ∀ {a b : D},D.same a b = true → a = b
  | .v a,b,hs => by cases b <;> simp only [D.same] at hs <;> first | (cases hs; done) | rw [Z24 hs]
  | .int k a,b,hs => by cases b <;> simp only [D.same,Bool.and_eq_true,decide_eq_true_eq] at hs <;> first | (cases hs; done) | rw [hs.1,hs.2]
  | .str a,b,hs => by cases b <;> simp only [D.same] at hs <;> first | (cases hs; done) | rw [Zv4 hs]
  | .ptr a c,b,hs => by cases b <;> simp only [D.same,Bool.and_eq_true] at hs <;> first | (cases hs; done) | rw [Nat.eq_of_beq_eq_true hs.1,Nat.eq_of_beq_eq_true hs.2]
  | .ep xs,b,hs => by cases b <;> simp only [D.same] at hs <;> first | (cases hs; done) | rw [Zay hs]
  | .row a c d e,b,hs => by cases b <;> simp only [D.same,Bool.and_eq_true] at hs <;> first | (cases hs; done) | rw [Nat.eq_of_beq_eq_true hs.1.1.1,Nat.eq_of_beq_eq_true hs.1.1.2,Nat.eq_of_beq_eq_true hs.1.2,Nat.eq_of_beq_eq_true hs.2]
  | .map a,b,hs => by cases b <;> simp only [D.same] at hs <;> first | (cases hs; done) | rw [Nat.eq_of_beq_eq_true hs]
  | .sl i n xs,b,hs => by cases b <;> simp only [D.same,Bool.and_eq_true] at hs <;> first | (cases hs; done) | rw [Nat.eq_of_beq_eq_true hs.1.1,Nat.eq_of_beq_eq_true hs.1.2,Zay hs.2]
  | .agg xs,b,hs => by cases b <;> simp only [D.same] at hs <;> first | (cases hs; done) | rw [Zay hs]
  | .tup xs,b,hs => by cases b <;> simp only [D.same] at hs <;> first | (cases hs; done) | rw [Zay hs]
  | .func _ _ _,b,hs => by cases b <;> simp only [D.same] at hs <;> cases hs
  | .iface t a,b,hs => by cases b <;> simp only [D.same,Bool.and_eq_true] at hs <;> first | (cases hs; done) | rw [Nat.eq_of_beq_eq_true hs.1,Zga hs.2]
theorem Zay : ∀ {xs ys : List D},ZR xs ys = true → xs = ys
  | [],ys,hs => by cases ys <;> simp only [ZR] at hs <;> first | rfl | cases hs
  | x :: xs,ys,hs => by
    cases ys with
    | nil => simp only [ZR] at hs; cases hs
    | cons y ys =>
      simp only [ZR,Bool.and_eq_true] at hs
      rw [Zga hs.1,Zay hs.2]
end
end
end Go.Abs
namespace Go.Abs
noncomputable section
def Yj (ops : Array Oper) (j : Nat) : List Nat := (Zr ops).getD j []
structure Run (P : Program) (glob : Nat → Option (List D)) (N : Nat) (E : Env) (call : Call) (ops : Array Oper) (B : Nat) (l : List CO) (aT : Nat → AAct) (hT : Nat → H) (rT : Nat → List Rec) : Prop where
  len : l.length = ops.size
  bnd : B ≤ ops.size
  op : ∀ (j : Nat) (o : Oper),ops[j]? = some o → ∃ gd q,l[j]? = some (CO.mk o.dst gd q) ∧ Zjy ops.toList o = some gd ∧ Zp4 P glob o = some q ∧ Zfx N o.dst = true
  edge : ∀ (j : Nat) (o : Oper),ops[j]? = some o → ∀ e ∈ o.after,Region.binds .any e = true → e.on < j
  pair : ∀ (i j : Nat) (x y : CO) (o : Oper),i < j → l[i]? = some x → l[j]? = some y → ops[j]? = some o → (Ya i (Yj ops j) = true → Wn (Zq x.op) (Zq y.op) = true ∧ Zh7 x y = true) ∧ (Ya i (Yj ops j) = false → below (Zr ops) i j o = true)
  step : ∀ (j : Nat) (c : CO),j < B → l[j]? = some c → StepOk E call j (Yj ops j) c (aT j) (hT j) (rT j) (aT (j + 1)) (hT (j + 1)) (rT (j + 1))
  grow : ZX call
theorem Zs8 {P : Program} {glob : Nat → Option (List D)} {N : Nat} {all : List Oper} : ∀ {ol : List Oper} {l : List CO},Zhc P glob N all ol = some l →
    l.length = ol.length ∧ ∀ (j : Nat) (o : Oper),ol[j]? = some o → ∃ gd q,l[j]? = some (CO.mk o.dst gd q) ∧ Zjy all o = some gd ∧ Zp4 P glob o = some q ∧ Zfx N o.dst = true
  | [],l,hc => by simp [Zhc] at hc; subst hc; exact ⟨rfl,fun j o h => by simp at h⟩
  | o :: ol,l,hc => by
    simp only [Zhc] at hc
    split at hc
    · rename_i gd c r h1 h2 h3
      cases hd : Zfx N o.dst with
      | false => rw [hd] at hc; cases hc
      | true =>
        rw [hd] at hc
        cases hc
        obtain ⟨h4,h5⟩ := Zs8 h3
        refine ⟨by simp [h4],fun j o' hj => ?_⟩
        cases j with
        | zero => simp at hj; subst hj; exact ⟨gd,c,rfl,h1,h2,hd⟩
        | succ j => exact h5 j o' (by simpa using hj)
    · cases hc
theorem Run.of {P : Program} {glob : Nat → Option (List D)} {N : Nat} {E : Env} {call : Call} {ops : Array Oper} {l : List CO} {a a' : AAct} {h h' : H} {e : AExit} (hcg : ZX call) (hc : Zhc P glob N ops.toList ops.toList = some l) (hd : Zei ops.toList l (Zr ops) = true)
    (hrun : Yk E call 0 [] (Zr ops) l a h = .out e a' h') : e = .normal ∧ ∃ aT hT rT,Run P glob N E call ops ops.size l aT hT rT ∧ aT 0 = a ∧ hT 0 = h ∧ rT 0 = [] ∧ aT ops.size = a' ∧ hT ops.size = h' := by
  obtain ⟨he,aT,hT,rT,e1,e2,e3,e4,e5,hst⟩ := Ztr l 0 [] (Zr ops) hrun
  obtain ⟨hl,hop⟩ := Zs8 hc
  have hlen : l.length = ops.size := by simpa using hl
  rw [hlen] at e4 e5
  have hall : ∀ (j : Nat) (o : Oper),ops[j]? = some o → (o.after.toList.all fun e => !Region.binds .any e || Nat.blt e.on j) = true ∧ ((List.range j).all fun i => Zoh l (Zr ops) i j o) = true := by
    intro j o hj
    unfold Zei at hd
    rw [List.all_eq_true] at hd
    have := hd (o,j) (by
      rw [List.mem_iff_getElem?]
      exact ⟨j,by simp [List.getElem?_zipIdx,hj]⟩)
    simpa only [Bool.and_eq_true] using this
  refine ⟨he,aT,hT,rT,⟨hlen,Nat.le_refl _,fun j o hj => hop j o (by simpa using hj),fun j o hj e hem hb => ?_,fun i j x y o hij hx hy hj => ?_,fun j c _ hj => ?_,hcg⟩,e1,e2,e3,e4,e5⟩
  · have h1 := (hall j o hj).1
    rw [List.all_eq_true] at h1
    have h2 := h1 e (by simpa using hem)
    rw [hb] at h2
    have h3 : e.on + 1 ≤ j := by simpa [Nat.blt] using h2
    omega
  · have h1 := (hall j o hj).2
    rw [List.all_eq_true] at h1
    have h2 := h1 i (by simpa using hij)
    unfold Zoh at h2
    rw [hx,hy] at h2
    simp only at h2
    refine ⟨fun hm => ?_,fun hm => ?_⟩
    · unfold Yj at hm
      rw [hm] at h2
      simpa using h2
    · unfold Yj at hm
      rw [hm] at h2
      exact h2
  · have := hst j c hj
    rw [Nat.zero_add] at this
    exact this
theorem Run.of_pan {P : Program} {glob : Nat → Option (List D)} {N : Nat} {E : Env} {call : Call} {ops : Array Oper} {l : List CO} {a a' : AAct} {h h' : H} {d : D} (hcg : ZX call) (hc : Zhc P glob N ops.toList ops.toList = some l) (hd : Zei ops.toList l (Zr ops) = true)
    (hrun : Yk E call 0 [] (Zr ops) l a h = .panic d a' h') : ∃ B aT hT rT c,Run P glob N E call ops B l aT hT rT ∧ B < ops.size ∧ aT 0 = a ∧ hT 0 = h ∧ rT 0 = [] ∧ aT B = a' ∧ l[B]? = some c ∧ Zn (aT B) c = true ∧ UO E call (aT B) c.op (hT B) = .panic d h' ∧ Y8 c.op = true ∧
      (∀ j,B < j → j < ops.size → Ya B (Yj ops j) = false) ∧ (a'.defers = [] ∨ Yj ops B = []) := by
  obtain ⟨B,aT,hT,rT,c,e1,e2,e3,e4,e5,e6,e7,e8,e9,e10,hst⟩ := Zqc l 0 [] (Zr ops) hrun
  obtain ⟨hl,hop⟩ := Zs8 hc
  have hlen : l.length = ops.size := by simpa using hl
  have hBl : B < l.length := (List.getElem?_eq_some_iff.1 e4).1
  have hB : B < ops.size := by omega
  have hin : (Zr ops).length = ops.size := by simp [Zr]
  have hall : ∀ (j : Nat) (o : Oper),ops[j]? = some o → (o.after.toList.all fun e => !Region.binds .any e || Nat.blt e.on j) = true ∧ ((List.range j).all fun i => Zoh l (Zr ops) i j o) = true := by
    intro j o hj
    unfold Zei at hd
    rw [List.all_eq_true] at hd
    have := hd (o,j) (by
      rw [List.mem_iff_getElem?]
      exact ⟨j,by simp [List.getElem?_zipIdx,hj]⟩)
    simpa only [Bool.and_eq_true] using this
  refine ⟨B,aT,hT,rT,c,⟨hlen,Nat.le_of_lt hB,fun j o hj => hop j o (by simpa using hj),fun j o hj e hem hb => ?_,fun i j x y o hij hx hy hj => ?_,fun j c hjB hj => ?_,hcg⟩,hB,e1,e2,e3,e5,e4,e6,e7,e8,fun j h1 h2 => by have := e9 j h1 (by omega); rw [Nat.zero_add] at this; exact this,e10⟩
  · have h1 := (hall j o hj).1
    rw [List.all_eq_true] at h1
    have h2 := h1 e (by simpa using hem)
    rw [hb] at h2
    have h3 : e.on + 1 ≤ j := by simpa [Nat.blt] using h2
    omega
  · have h1 := (hall j o hj).2
    rw [List.all_eq_true] at h1
    have h2 := h1 i (by simpa using hij)
    unfold Zoh at h2
    rw [hx,hy] at h2
    simp only at h2
    refine ⟨fun hm => ?_,fun hm => ?_⟩
    · unfold Yj at hm
      rw [hm] at h2
      simpa using h2
    · unfold Yj at hm
      rw [hm] at h2
      exact h2
  · have := hst j c hjB hj
    rw [Nat.zero_add] at this
    exact this
theorem Zjp (q : COp) : Y8 q = true ∨ Zq q = .pure ∨ Zq q = .alloc ∨ Zq q = .load ∨ Zq q = .reads ∨ Zq q = .mreads := by
  cases q <;> simp [Y8,Zq]
theorem Zb1 {q : COp} (h : Y8 q = true) : Zq q = .loud ∨ Zq q = .sto ∨ Zq q = .bad := by
  cases q <;> simp [Y8] at h <;> simp [Zq]
theorem Vu {q : COp} (h : Zq q = .pure ∨ Zq q = .alloc ∨ Zq q = .load ∨ Zq q = .reads) : Y8 q = false := by
  cases q <;> simp [Zq] at h <;> rfl
theorem VS {x y : COp} (h : Wn (Zq x) (Zq y) = true) (hx : Y8 x = true) (hy : Y8 y = true) : False := by
  rcases Zb1 hx with h1 | h1 | h1 <;> rcases Zb1 hy with h2 | h2 | h2 <;> rw [h1,h2] at h <;> simp [Wn] at h
theorem Zcu {x y : COp} (h : Wn (Zq x) (Zq y) = true) (hx : Zq x = .alloc) (hy : Y8 y = true) : False := by
  rcases Zb1 hy with h2 | h2 | h2 <;> rw [hx,h2] at h <;> simp [Wn] at h
theorem Zln {x y : COp} (h : Wn (Zq x) (Zq y) = true) (hx : Zq x = .alloc) (hy : Zq y = .reads) : False := by
  rw [hx,hy] at h; simp [Wn] at h
theorem Zmx {x y : COp} (h : Wn (Zq x) (Zq y) = true) (hx : Y8 x = true) (hy : Zq y = .reads) : False := by
  rcases Zb1 hx with h2 | h2 | h2 <;> rw [hy,h2] at h <;> simp [Wn] at h
theorem Zmw {x y : COp} (h : Wn (Zq x) (Zq y) = true) (hx : Zq x = .reads) (hy : Y8 y = true) : False := by
  rcases Zb1 hy with h2 | h2 | h2 <;> rw [hx,h2] at h <;> simp [Wn] at h
theorem Zow {q : COp} (h : Zq q = .mreads) : Y8 q = false := by
  cases q <;> simp [Zq] at h <;> rfl
theorem Zkd {x y : COp} (h : Wn (Zq x) (Zq y) = true) (hx : Zq x = .alloc) (hy : Zq y = .mreads) : False := by
  rw [hx,hy] at h; simp [Wn] at h
theorem Zlm {x y : COp} (h : Wn (Zq x) (Zq y) = true) (hx : Y8 x = true) (hy : Zq y = .mreads) : Zq x = .sto := by
  rcases Zb1 hx with h2 | h2 | h2
  · rw [hy,h2] at h; simp [Wn] at h
  · exact h2
  · rw [hy,h2] at h; simp [Wn] at h
theorem Zll {x y : COp} (h : Wn (Zq x) (Zq y) = true) (hx : Zq x = .mreads) (hy : Y8 y = true) : Zq y = .sto := by
  rcases Zb1 hy with h2 | h2 | h2
  · rw [hx,h2] at h; simp [Wn] at h
  · exact h2
  · rw [hx,h2] at h; simp [Wn] at h
theorem Zr2 (K h' : H) (n : Nat) (y : Value) : Zz K n (.v y) = Zz h' n (.v y) := by
  unfold Zz
  split <;> first | rfl | (rename_i h; cases h)
theorem Zw6 {q : COp} (a : AAct) (h : Zq q = .load) : ∃ x k,YA a q = some (x,k) ∧ ∀ E call K h' cs d,Z3 K x k = some cs → Z3 h' x k = some cs → Vh q E call a h' = .ok d h' → Vh q E call a K = .ok d K := by
  cases q <;> simp [Zq] at h
  case ld1 x =>
    refine ⟨_,_,rfl,fun E call K h' cs d h1 h2 h3 => ?_⟩
    simp only [Vh,Zhk] at h3 ⊢
    rw [h2] at h3
    rw [h1]
    split at h3
    · rename_i d' he; cases he; cases h3; rfl
    · cases h3
  case ldN n x =>
    refine ⟨_,_,rfl,fun E call K h' cs d h1 h2 h3 => ?_⟩
    simp only [Vh,Zhj] at h3 ⊢
    rw [h2] at h3
    rw [h1]
    cases h3; rfl
  case b2s x =>
    refine ⟨_,_,rfl,fun E call K h' cs d h1 h2 h3 => ?_⟩
    have e : Zz K 1 (a.eval x) = Zz h' 1 (a.eval x) := by
      revert h1 h2
      cases a.eval x with
      | row l off n c =>
        intro h1 h2
        have h1 : Z3 K (.ptr l off) (n * 1) = some cs := h1
        have h2 : Z3 h' (.ptr l off) (n * 1) = some cs := h2
        simp only [Zz,h1,h2]
      | v y => intro _ _; exact Zr2 K h' 1 y
      | _ => intro _ _; rfl
    simp only [Vh,Zbw] at h3 ⊢
    rw [e]
    split at h3
    · rename_i n' cs' he
      split at h3
      · rename_i l hl; cases h3; rfl
      · cases h3
    · cases h3
theorem Zdm {q : COp} {a : AAct} {p : D × Nat} (h : YA a q = some p) : Zq q = .load := by
  cases q <;> simp [YA] at h <;> rfl
section
variable {P : Program} {glob : Nat → Option (List D)} {N : Nat} {E : Env} {call : Call} {ops : Array Oper} {B : Nat} {l : List CO} {aT : Nat → AAct} {hT : Nat → H} {rT : Nat → List Rec}
def Yx (l : List CO) (aT : Nat → AAct) (j : Nat) : Prop := ∃ c,l[j]? = some c ∧ Zn (aT j) c = true ∧ Y8 c.op = true
theorem Run.at (hR : Run P glob N E call ops B l aT hT rT) {j : Nat} (hjB : j < B) : ∃ o gd q,ops[j]? = some o ∧ l[j]? = some (CO.mk o.dst gd q) ∧ Zjy ops.toList o = some gd ∧ Zp4 P glob o = some q ∧ Zfx N o.dst = true := by
  have hj : j < ops.size := Nat.lt_of_lt_of_le hjB hR.bnd
  obtain ⟨gd,q,h⟩ := hR.op j ops[j] (by simp [hj])
  exact ⟨ops[j],gd,q,by simp [hj],h⟩
theorem Run.at' (hR : Run P glob N E call ops B l aT hT rT) {j : Nat} (hj : j < ops.size) : ∃ o gd q,ops[j]? = some o ∧ l[j]? = some (CO.mk o.dst gd q) ∧ Zjy ops.toList o = some gd ∧ Zp4 P glob o = some q ∧ Zfx N o.dst = true := by
  obtain ⟨gd,q,h⟩ := hR.op j ops[j] (by simp [hj])
  exact ⟨ops[j],gd,q,by simp [hj],h⟩
theorem Run.open' (hR : Run P glob N E call ops B l aT hT rT) {i j : Nat} {x y : CO} (hij : i < j) (hj : j < ops.size) (hx : l[i]? = some x) (hy : l[j]? = some y) (hm : Ya i (Yj ops j) = true) : Wn (Zq x.op) (Zq y.op) = true ∧ Zh7 x y = true :=
  (hR.pair i j x y ops[j] hij hx hy (by simp [hj])).1 hm
theorem Run.stepGrow (hR : Run P glob N E call ops B l aT hT rT) {j : Nat} (hj : j < B) : Grow (hT j) (hT (j + 1)) := by
  obtain ⟨o,gd,q,h1,h2,_⟩ := hR.at hj
  cases hR.step j _ hj h2 with
  | skip _ _ e _ => rw [e]; exact .refl _
  | read d x k cs _ hc => exact Zng hR.grow hc
  | loud d _ hc => exact Zng hR.grow hc
  | quiet d _ hc => exact Zng hR.grow hc
theorem Run.growth (hR : Run P glob N E call ops B l aT hT rT) {i : Nat} : ∀ {j : Nat},i ≤ j → j ≤ B → Grow (hT i) (hT j)
  | 0, hij, _ => by have : i = 0 := by omega
                    subst this; exact .refl _
  | j + 1,hij,hj => by
    by_cases e : i = j + 1
    · subst e; exact .refl _
    · exact (hR.growth (by omega) (by omega)).trans (hR.stepGrow (by omega))
theorem Run.nx (hR : Run P glob N E call ops B l aT hT rT) {i j : Nat} (hij : i ≤ j) (hj : j ≤ B) : (hT i).next ≤ (hT j).next := (hR.growth hij hj).next
theorem Run.dom (hR : Run P glob N E call ops B l aT hT rT) (h0 : Zrt (hT 0)) {j : Nat} (hj : j ≤ B) : Zrt (hT j) := (hR.growth (Nat.zero_le _) hj).dom h0
theorem Run.quiet1 (hR : Run P glob N E call ops B l aT hT rT) {j : Nat} (hj : j < B) (hn : ¬ Yx l aT j) {k : Nat} (hk : k < (hT j).next) : (hT (j + 1)).mem.get k = (hT j).mem.get k := by
  obtain ⟨o,gd,q,h1,h2,_⟩ := hR.at hj
  cases hR.step j _ hj h2 with
  | skip _ _ e _ => rw [e]
  | read d x n cs _ hc _ hrd => rw [Vf (.inl (Zdm hrd)) hc]
  | loud d hw hc _ _ hl => exact absurd ⟨_,h2,hw,hl⟩ hn
  | quiet d hw hc _ _ hl =>
    rcases Zjp q with h | h | h | h | h | h
    · rw [show Y8 q = false from hl] at h; cases h
    · obtain ⟨K',_,_,k3,k4,_⟩ := Zfy (.inl h) hc
      rw [k4 h]
    · obtain ⟨K',_,_,k3,k4,k5⟩ := Zfy (.inr h) hc
      rw [k5 k]
      cases hg : K'.mem.get k with
      | none => rfl
      | some o' => exact absurd (k3 k o' hg).1 (by omega)
    · rw [Vf (.inl h) hc]
    · rw [Vf (.inr (.inl h)) hc]
    · rw [Vf (.inr (.inr h)) hc]
theorem Run.quiet (hR : Run P glob N E call ops B l aT hT rT) {i : Nat} : ∀ {j : Nat},i ≤ j → j ≤ B → (∀ m,i ≤ m → m < j → ¬ Yx l aT m) → ∀ {k : Nat},k < (hT i).next → (hT j).mem.get k = (hT i).mem.get k
  | 0, hij, _, _, k, hk => by have : i = 0 := by omega
                              subst this; rfl
  | j + 1,hij,hj,hn,k,hk => by
    by_cases e : i = j + 1
    · subst e; rfl
    · rw [hR.quiet1 (by omega) (hn j (by omega) (by omega)) (Nat.lt_of_lt_of_le hk (hR.nx (by omega) (by omega))),hR.quiet (by omega) (by omega) (fun m h1 h2 => hn m h1 (by omega)) hk]
theorem Run.maker (hR : Run P glob N E call ops B l aT hT rT) {j : Nat} (hj : j < B) (hn : (hT j).next < (hT (j + 1)).next) : Yx l aT j ∨ ∃ c,l[j]? = some c ∧ Zq c.op = .alloc := by
  obtain ⟨o,gd,q,h1,h2,_⟩ := hR.at hj
  cases hR.step j _ hj h2 with
  | skip _ _ e _ => rw [e] at hn; omega
  | read d x n cs _ hc _ hrd => rw [Vf (.inl (Zdm hrd)) hc] at hn; omega
  | loud d hw hc _ _ hl => exact .inl ⟨_,h2,hw,hl⟩
  | quiet d hw hc _ _ hl =>
    rcases Zjp q with h | h | h | h | h | h
    · rw [show Y8 q = false from hl] at h; cases h
    · obtain ⟨K',_,_,k3,k4,_⟩ := Zfy (.inl h) hc
      rw [k4 h] at hn; omega
    · exact .inr ⟨_,h2,h⟩
    · rw [Vf (.inl h) hc] at hn; omega
    · rw [Vf (.inr (.inl h)) hc] at hn; omega
    · rw [Vf (.inr (.inr h)) hc] at hn; omega
theorem Run.kept (hR : Run P glob N E call ops B l aT hT rT) : ∀ {m : Nat},m ≤ B → ∀ j,j < m → ∀ r,r ∈ rT (j + 1) → r ∈ rT m
  | 0,_,j,hj,r,hr => by omega
  | m + 1,hm,j,hj,r,hr => by
    by_cases e : j = m
    · subst e; exact hr
    · have h1 := hR.kept (m := m) (by omega) j (by omega) r hr
      obtain ⟨o,gd,q,_,h2,_⟩ := hR.at (j := m) (by omega)
      cases hR.step m _ (by omega) h2 with
      | skip _ _ _ e => rw [e]; exact h1
      | read d x n cs _ _ _ _ _ _ e => rw [e]; exact List.mem_cons_of_mem _ h1
      | loud d _ _ _ _ _ _ e => rw [e]; exact List.mem_cons_of_mem _ h1
      | quiet d _ _ _ _ _ e => rw [e]; exact h1
theorem Run.read_before (hR : Run P glob N E call ops B l aT hT rT) {i k : Nat} (hki : k < i) (hi : i < B) (hl : Yx l aT k) {c : CO} (hc : l[i]? = some c) (hw : Zn (aT i) c = true) {x : D} {n : Nat} (hx : YA (aT i) c.op = some (x,n)) (hm : Ya k (Yj ops i) = true) :
    ∃ cs,Z3 (hT i) x n = some cs ∧ Z3 (hT k) x n = some cs := by
  have hlk := hl
  obtain ⟨ck,hck,hwk,hlk⟩ := hlk
  have hrec : Rec.loud k (hT k) ∈ rT (k + 1) := by
    cases hR.step k _ (by omega) hck with
    | skip hw' => rw [hwk] at hw'; cases hw'
    | read d x n cs _ _ _ hrd => rw [Vu (.inr (.inr (.inl (Zdm hrd))))] at hlk; cases hlk
    | loud d _ _ _ _ _ _ e => rw [e]; simp
    | quiet d _ _ _ _ hq => rw [hlk] at hq; cases hq
  have hrec' := hR.kept (m := i) (Nat.le_of_lt hi) k hki _ hrec
  cases hR.step i _ (by omega) hc with
  | skip hw' => rw [hw] at hw'; cases hw'
  | read d y n' cs _ _ _ hrd hcs hok =>
    rw [hx] at hrd
    cases hrd
    obtain ⟨ds,h1,h2⟩ := Zjd hok k (hT k) hrec' hm
    have hlen : cs.length = n := by
      unfold Z3 at hcs
      split at hcs
      · split at hcs
        · simp only [Bool.cond_eq_ite] at hcs; split at hcs
          · rename_i hb; cases hcs; exact Nat.eq_of_beq_eq_true hb
          · cases hcs
        · cases hcs
      · simp only [Bool.cond_eq_ite] at hcs; split at hcs
        · rename_i hb; cases hcs; exact Nat.eq_of_beq_eq_true hb
        · cases hcs
      · cases hcs
    rw [hlen] at h1
    exact ⟨cs,hcs,by rw [Zay h2]; exact h1⟩
  | loud d _ _ _ hrd => rw [hx] at hrd; cases hrd
  | quiet d _ _ _ hrd => rw [hx] at hrd; cases hrd
theorem Run.read_behind (hR : Run P glob N E call ops B l aT hT rT) {i k : Nat} (hik : i < k) (hk : k < B) (hl : Yx l aT k) {c : CO} (hc : l[i]? = some c) (hw : Zn (aT i) c = true) {x : D} {n : Nat} (hx : YA (aT i) c.op = some (x,n)) (hm : Ya i (Yj ops k) = true) :
    ∃ cs,Z3 (hT i) x n = some cs ∧ Z3 (hT (k + 1)) x n = some cs := by
  have hlk := hl
  obtain ⟨ck,hck,hwk,hlk⟩ := hlk
  have hsi := hR.step i _ (by omega) hc
  cases hsi with
  | skip hw' => rw [hw] at hw'; cases hw'
  | loud d _ _ _ hrd => rw [hx] at hrd; cases hrd
  | quiet d _ _ _ hrd => rw [hx] at hrd; cases hrd
  | read d y n' cs _ _ _ hrd hcs hok e =>
    rw [hx] at hrd
    cases hrd
    have hrec : Rec.rd i x cs ∈ rT (i + 1) := by rw [e]; simp
    have hrec' := hR.kept (m := k) (Nat.le_of_lt hk) i hik _ hrec
    have hlen : cs.length = n := by
      unfold Z3 at hcs
      split at hcs
      · split at hcs
        · simp only [Bool.cond_eq_ite] at hcs; split at hcs
          · rename_i hb; cases hcs; exact Nat.eq_of_beq_eq_true hb
          · cases hcs
        · cases hcs
      · simp only [Bool.cond_eq_ite] at hcs; split at hcs
        · rename_i hb; cases hcs; exact Nat.eq_of_beq_eq_true hb
        · cases hcs
      · cases hcs
    cases hR.step k _ (by omega) hck with
    | skip hw' => rw [hwk] at hw'; cases hw'
    | read d x n cs _ _ _ hrd => rw [Vu (.inr (.inr (.inl (Zdm hrd))))] at hlk; cases hlk
    | quiet d _ _ _ _ hq => rw [hlk] at hq; cases hq
    | loud d' _ _ _ _ _ hlok =>
      obtain ⟨ds,h1,h2⟩ := Zjn hlok i x cs hrec' hm
      rw [hlen] at h1
      exact ⟨cs,hcs,by rw [Zay h2]; exact h1⟩
end
end
end Go.Abs
