/- Functions that are given by hand. -/
import Derived.Test.YthifolidfjpdkaaGreatDoorNdCall
import Derived.Below
import Derived.Lib.SlTrimSet
import Derived.Lib.UnsafeStr
set_option linter.unusedVariables false
set_option linter.unusedSimpArgs false
namespace Go.Abs
noncomputable section
open Go.RowKit
section
variable {P : Program} {top : Nat} {glob : Nat → Option (List D)} {g : G} {h h' : H} {w w' : World}
theorem R.below (hr : R P top g h w) (hb : Below w.heap.size w w') : Ext g h w g h w' ∧ R P top g h w' := by
  have hg : w.grownBy w' none := ⟨hb.os,hb.tape,hb.output,hb.size,fun k hk _ => hb.block k hk⟩
  refine ⟨⟨.refl g,fun _ _ x => x,fun _ _ => rfl,hb.os,hb.tape,hb.output,hb.size,fun b hbs _ => hb.block b hbs,fun _ _ x => x,Nat.le_refl _,fun _ x _ => x,fun _ _ _ _ => rfl,fun _ _ _ _ => rfl⟩,⟨fun l o ho hn => ?_,fun id n e hi => ?_,fun b o d hd => ?_,hr.blkown,hr.slown,hr.name,hr.dom,hr.le,fun b hbs => hr.block b (Nat.le_trans hb.size hbs),hr.pos,hr.slblk,fun b l hl ob hob => hr.ownk b l hl ob (by rw [← hob]; exact (hb.block b (Nat.lt_of_not_le fun hq => by rw [hr.block b hq] at hl; cases hl)).symm)⟩⟩
  · obtain ⟨b,ob,h1,h2,h3⟩ := hr.obj l o ho hn
    exact ⟨b,ob,h1,(hb.block b (Array.getElem?_eq_some_iff.1 h2).1).trans h2,h3⟩
  · obtain ⟨b,cap,xs,h1,h2,h3,h4⟩ := hr.tip id n e hi
    exact ⟨b,cap,xs,h1,h2.kept hg (.inr (by simp [Value.ownBlock])),h3,h4⟩
  · obtain ⟨v,hv,hd'⟩ := hr.imm b o d hd
    exact ⟨v,hg.cell hv (by simp),hd'⟩
theorem Zk.one' {d1 : D} {args : Array Value} (hv : Zk g [d1] args.toList) : ∃ v1,args = #[v1] ∧ VRel g d1 v1 := by
  obtain ⟨l⟩ := args
  match l,hv with
  | [],hv => have := hv.1; simp at this
  | [a],hv => exact ⟨a,rfl,hv.head⟩
  | a :: b :: r,hv => have := hv.1; simp at this
theorem Zk.two' {d1 d2 : D} {args : Array Value} (hv : Zk g [d1,d2] args.toList) : ∃ v1 v2,args = #[v1,v2] ∧ VRel g d1 v1 ∧ VRel g d2 v2 := by
  obtain ⟨l⟩ := args
  match l,hv with
  | [],hv => have := hv.1; simp at this
  | [a],hv => have := hv.1; simp at this
  | [a,b],hv => exact ⟨a,b,rfl,hv.head,hv.tail.head⟩
  | a :: b :: c :: r,hv => have := hv.1; simp at this
theorem VRel.str' {l : List Nat} {v : Value} (hv : VRel g (.str l) v) : ∃ s,v = .string s ∧ l = ZE s := by
  cases hv with
  | str s => exact ⟨s,rfl,rfl⟩
theorem VRel.int' {k : IntKind} {n : Int} {v : Value} (hv : VRel g (.int k n) v) : v = .int k n := by
  cases hv with
  | int => rfl
theorem Zds {f : Nat} {lf : List D → H → O D}
    (hl : ∀ ds h p d h',lf ds h = .mk p d h' → p = false ∧ h' = h ∧ ∀ top g w args,R P top g h w → Zk g ds args.toList →
      (callFunc f args).run P w = .ok (.enter f args) w ∧ ∃ v,VRel g d v ∧ Calls P f args w fun e w' => e = .returned v ∧ Below w.heap.size w w') : Zp P f lf glob := by
  intro ds h p d h' hrun top g w args htop hr hglob hargs
  obtain ⟨rfl,rfl,hcall⟩ := hl ds h p d h' hrun
  obtain ⟨h1,v,hv,h2⟩ := hcall top g w args hr hargs
  refine .inl ⟨h1,h2.mono ?_⟩
  rintro e w' ⟨rfl,hb⟩
  obtain ⟨he,hr'⟩ := hr.below hb
  exact ⟨v,rfl,g,he,hr',hv⟩
theorem WG {o : O D} (ho : ∀ p d h',o = .mk p d h' → h' = h) : Xv h o := by
  cases o with
  | ok d h' => have := ho false d h' rfl; subst this; exact Grow.refl _
  | panic d h' => have := ho true d h' rfl; subst this; exact Grow.refl _
  | fail w => trivial
def Zsn (n : Nat) : List Nat → Bool
  | [] => false
  | m :: r => Nat.beq n m || Zsn n r
def Zi2 (cut : List Nat) : List Nat → List Nat
  | [] => []
  | b :: r => bif Zsn b cut then Zi2 cut r else b :: r
def Zkv : List Nat → Bool
  | [] => true
  | b :: r => Nat.blt b 128 && Zkv r
def Zih (ds : List D) (h : H) : O D :=
  match ds with
  | [.str s,.str cut] => bif Zkv cut && Nat.blt cut.length 4294967281 then .ok (.str (Zi2 cut s)) h else .fail "trim"
  | _ => .fail "trim"
theorem Z74 (b : UInt8) (cs : List UInt8) : Zsn b.toNat (cs.map (·.toNat)) = cs.contains b := by
  induction cs with
  | nil => rfl
  | cons c r ih =>
    simp only [List.map_cons,Zsn,ih,List.contains_cons]
    congr 1
    by_cases e : b = c
    · subst e; simp
    · have : ¬ b.toNat = c.toNat := fun h => e (UInt8.toNat_inj.1 h)
      have h1 : Nat.beq b.toNat c.toNat = false := by
        cases hb : Nat.beq b.toNat c.toNat with
        | false => rfl
        | true => exact absurd (Nat.eq_of_beq_eq_true hb) this
      rw [h1]; simp [e]
theorem Zu1 (cs s : List UInt8) : Zi2 (cs.map (·.toNat)) (s.map (·.toNat)) = (Lib.trimLeftS s cs).map (·.toNat) := by
  induction s with
  | nil => rfl
  | cons b r ih =>
    simp only [List.map_cons,Zi2,Z74,Lib.trimLeftS,List.dropWhile_cons]
    cases cs.contains b with
    | true => simp only [cond_true,ih]; rfl
    | false => simp
theorem Zv6 {cs : List UInt8} (hc : Zkv (cs.map (·.toNat)) = true) : ∀ (j : Nat) b,cs[j]? = some b → b.toNat < 128 := by
  induction cs with
  | nil => intro j b hb; simp at hb
  | cons c r ih =>
    simp only [List.map_cons,Zkv,Bool.and_eq_true] at hc
    intro j b hb
    cases j with
    | zero => simp at hb; subst hb; simpa using hc.1
    | succ j => exact ih hc.2 j b (by simpa using hb)
theorem Zu4 {f : Nat} (hent : ∀ args w,(callFunc f args).run P w = .ok (.enter f args) w)
    (hc : ∀ (s cut : ByteArray) (w : World),cut.size < 4294967281 → (∀ (j : Nat) b,cut.data.toList[j]? = some b → b.toNat < 128) →
      Calls P f #[.string s,.string cut] w fun e w' => e = .returned (.string ⟨(Lib.trimLeftS s.data.toList cut.data.toList).toArray⟩) ∧ Below w.heap.size w w') : Zp P f Zih glob := by
  refine Zds fun ds h p d h' hrun => ?_
  unfold Zih at hrun
  split at hrun
  · rename_i s cut
    cases hq : Zkv cut && Nat.blt cut.length 4294967281 with
    | false => rw [hq] at hrun; cases p <;> cases hrun
    | true =>
      rw [hq] at hrun
      cases p with
      | true => cases hrun
      | false =>
        cases hrun
        refine ⟨rfl,rfl,fun top g w args hr hargs => ⟨hent args w, ?_⟩⟩
        obtain ⟨v1,v2,rfl,h1,h2⟩ := hargs.two'
        obtain ⟨s1,rfl,rfl⟩ := h1.str'
        obtain ⟨s2,rfl,rfl⟩ := h2.str'
        simp only [Bool.and_eq_true] at hq
        refine ⟨_, ?_,hc s1 s2 w ?_ (Zv6 hq.1)⟩
        · have := Zu1 s2.data.toList s1.data.toList
          simp only [ZE] at this ⊢
          rw [this]
          exact VRel.str ⟨(Lib.trimLeftS s1.data.toList s2.data.toList).toArray⟩
        · have h3 := hq.2
          simp [ZE] at h3
          exact h3
  · cases p <;> cases hrun
theorem Zss (ds : List D) (h : H) : Xv h (Zih ds h) := by
  refine WG fun p d h' hr => ?_
  unfold Zih at hr
  split at hr
  · rename_i s cut
    cases hq : Zkv cut && Nat.blt cut.length 4294967281 <;> rw [hq] at hr <;> cases p <;> cases hr
    rfl
  · cases p <;> cases hr
end
end
end Go.Abs
namespace Go.Abs
noncomputable section
open Go.RowKit
section
variable {P : Program} {top : Nat} {glob : Nat → Option (List D)} {g : G} {h h' : H} {w w' : World}
def Znw (nm : List Nat) : Int × Bool → List D → Option (Int × Bool)
  | acc,[] => some acc
  | acc,.str s :: .int .u64 z :: r => Znw nm (bif UQ s nm then (z,true) else acc) r
  | _,_ => none
def Zr6 (a b : Int) : Bool := decide (a ≤ b)
def Zt7 (nm : List Nat) : Int × Int × Bool → List D → Option (Int × Int × Bool)
  | acc,[] => some acc
  | acc,.str s :: .int .u64 z :: .int .u64 y :: r => Zt7 nm (bif UQ s nm then (z,y,Zr6 z y) else acc) r
  | _,_ => none
def Zi6 (nm : Nat → ByteArray) (z : Nat → Int) (s : ByteArray) : Nat → Int × Bool
  | 0 => (0,false)
  | k + 1 => if nm k = s then (z k,true) else Zi6 nm z s k
def Zhu (nm : Nat → ByteArray) (z y : Nat → Int) (s : ByteArray) : Nat → Int × Int × Bool
  | 0 => (0,0,false)
  | k + 1 => if nm k = s then (z k,y k,decide (z k ≤ y k)) else Zhu nm z y s k
def Zwd (vs : List Value) (n j : Nat) : ByteArray :=
  match vs[j * n]? with
  | some (.string s) => s
  | _ => .empty
def zf (vs : List Value) (n i j : Nat) : Int :=
  match vs[j * n + i]? with
  | some (.int _ z) => z
  | _ => 0
theorem Zt8 (s : ByteArray) {vs : List Value} : ∀ (m k : Nat) (cs : List D) (r : Int × Bool),cs.length = m * 2 → Zk g cs (vs.drop (k * 2)) → Znw (ZE s) (Zi6 (Zwd vs 2) (zf vs 2 1) s k) cs = some r →
    r = Zi6 (Zwd vs 2) (zf vs 2 1) s (k + m) ∧ ∀ j,k ≤ j → j < k + m → vs[j * 2]? = some (.string (Zwd vs 2 j)) ∧ vs[j * 2 + 1]? = some (.int .u64 (zf vs 2 1 j))
  | 0,k,cs,r,hl,hv,hs => by
    have : cs = [] := List.eq_nil_of_length_eq_zero (by omega)
    subst this
    simp only [Znw] at hs
    cases hs
    exact ⟨rfl,fun j h1 h2 => by omega⟩
  | m + 1,k,cs,r,hl,hv,hs => by
    unfold Znw at hs
    split at hs
    · simp at hl
    · rename_i acc x0 d z cs'
      obtain ⟨v0,e0,r0⟩ := hv.some (i := 0) (d := .str d) rfl
      obtain ⟨v1,e1,r1⟩ := hv.some (i := 1) (d := .int .u64 z) rfl
      obtain ⟨s0,rfl,rfl⟩ := r0.str'
      have := r1.int'
      subst this
      rw [List.getElem?_drop] at e0 e1
      have hn : Zwd vs 2 k = s0 := by simp only [Zwd]; rw [show k * 2 = k * 2 + 0 from rfl,e0]
      have hz : zf vs 2 1 k = z := by simp only [zf]; rw [e1]
      have hv' : Zk g cs' (vs.drop ((k + 1) * 2)) := by
        have := hv.drop 2
        rw [List.drop_drop] at this
        have e : k * 2 + 2 = (k + 1) * 2 := by omega
        rw [e] at this
        simpa using this
      have hacc : (bif UQ (ZE s0) (ZE s) then (z,true) else Zi6 (Zwd vs 2) (zf vs 2 1) s k) = Zi6 (Zwd vs 2) (zf vs 2 1) s (k + 1) := by
        simp only [Zi6,hn,hz]
        by_cases e : s0 = s
        · subst e; rw [Ze4]; simp
        · have : UQ (ZE s0) (ZE s) = false := by rw [Ze4]; exact decide_eq_false fun hh => e (Zfm.1 hh)
          rw [this,if_neg e]; rfl
      rw [hacc] at hs
      obtain ⟨h1,h2⟩ := Zt8 s m (k + 1) cs' r (by simp at hl; omega) hv' hs
      refine ⟨by rw [h1]; congr 1; omega,fun j hj1 hj2 => ?_⟩
      by_cases e : j = k
      · subst e; rw [hn,hz]; exact ⟨by rw [show j * 2 = j * 2 + 0 from rfl,e0],e1⟩
      · exact h2 j (by omega) (by omega)
    · cases hs
theorem Zt6 (s : ByteArray) {vs : List Value} : ∀ (m k : Nat) (cs : List D) (r : Int × Int × Bool),cs.length = m * 3 → Zk g cs (vs.drop (k * 3)) → Zt7 (ZE s) (Zhu (Zwd vs 3) (zf vs 3 1) (zf vs 3 2) s k) cs = some r →
    r = Zhu (Zwd vs 3) (zf vs 3 1) (zf vs 3 2) s (k + m) ∧ ∀ j,k ≤ j → j < k + m → vs[j * 3]? = some (.string (Zwd vs 3 j)) ∧ vs[j * 3 + 1]? = some (.int .u64 (zf vs 3 1 j)) ∧ vs[j * 3 + 2]? = some (.int .u64 (zf vs 3 2 j))
  | 0,k,cs,r,hl,hv,hs => by
    have : cs = [] := List.eq_nil_of_length_eq_zero (by omega)
    subst this
    simp only [Zt7] at hs
    cases hs
    exact ⟨rfl,fun j h1 h2 => by omega⟩
  | m + 1,k,cs,r,hl,hv,hs => by
    unfold Zt7 at hs
    split at hs
    · simp at hl
    · rename_i acc x0 d z y cs'
      obtain ⟨v0,e0,r0⟩ := hv.some (i := 0) (d := .str d) rfl
      obtain ⟨v1,e1,r1⟩ := hv.some (i := 1) (d := .int .u64 z) rfl
      obtain ⟨v2,e2,r2⟩ := hv.some (i := 2) (d := .int .u64 y) rfl
      obtain ⟨s0,rfl,rfl⟩ := r0.str'
      have := r1.int'
      subst this
      have := r2.int'
      subst this
      rw [List.getElem?_drop] at e0 e1 e2
      have hn : Zwd vs 3 k = s0 := by simp only [Zwd]; rw [show k * 3 = k * 3 + 0 from rfl,e0]
      have hz : zf vs 3 1 k = z := by simp only [zf]; rw [e1]
      have hy : zf vs 3 2 k = y := by simp only [zf]; rw [e2]
      have hv' : Zk g cs' (vs.drop ((k + 1) * 3)) := by
        have := hv.drop 3
        rw [List.drop_drop] at this
        have e : k * 3 + 3 = (k + 1) * 3 := by omega
        rw [e] at this
        simpa using this
      have hacc : (bif UQ (ZE s0) (ZE s) then (z,y,Zr6 z y) else Zhu (Zwd vs 3) (zf vs 3 1) (zf vs 3 2) s k) = Zhu (Zwd vs 3) (zf vs 3 1) (zf vs 3 2) s (k + 1) := by
        simp only [Zhu,hn,hz,hy]
        by_cases e : s0 = s
        · subst e; rw [Ze4]; simp [Zr6]
        · have : UQ (ZE s0) (ZE s) = false := by rw [Ze4]; exact decide_eq_false fun hh => e (Zfm.1 hh)
          rw [this,if_neg e]; rfl
      rw [hacc] at hs
      obtain ⟨h1,h2⟩ := Zt6 s m (k + 1) cs' r (by simp at hl; omega) hv' hs
      refine ⟨by rw [h1]; congr 1; omega,fun j hj1 hj2 => ?_⟩
      by_cases e : j = k
      · subst e; rw [hn,hz,hy]; exact ⟨by rw [show j * 3 = j * 3 + 0 from rfl,e0],e1,e2⟩
      · exact h2 j (by omega) (by omega)
    · cases hs
def Zeb (ds : List D) (h : H) : O D :=
  match ds with
  | [e,.str nm] => match Zz h 2 e with
    | some (n,cs) => bif Nat.ble n 1000000 && Nat.beq cs.length (n * 2) then (match Znw nm (0,false) cs with
      | some (z,ok) => .ok (.tup [.int .u64 z,.v (.bool ok)]) h
      | none => .fail "Get") else .fail "Get"
    | none => .fail "Get"
  | _ => .fail "Get"
theorem Z48 (hr : R P top g h w) {size n : Nat} {e : D} {cs : List D} (hc : Zz h size e = some (n,cs)) (hlen : cs.length = n * size) (hsize : 0 < size) {v : Value} (hv : VRel g e v) :
    ∃ a cap vs,v = .slice a n cap ∧ Zk g cs vs ∧ (n = 0 ∨ ∃ b off,a = some ⟨b,off,none⟩ ∧ b < w.heap.size ∧ ∀ i u,vs[i]? = some u → w.cell? ⟨b,off + i,none⟩ = some u) := by
  rcases Zd1 hr hc hv with ⟨rfl,rfl,rfl⟩ | ⟨ad,cap,vs,rfl,hvs,hl,hcell⟩
  · exact ⟨none,0,[],rfl,.nil g,.inl rfl⟩
  · refine ⟨some ad,cap,vs,rfl,hvs, ?_⟩
    by_cases hn : n = 0
    · exact .inl hn
    · right
      have hpos : 0 < vs.length := by rw [← hvs.1,hlen]; exact Nat.mul_pos (by omega) hsize
      have h0 := hcell 0 vs[0] (List.getElem?_eq_getElem hpos)
      have hsp : ad.spot = none := by simpa [Addr.add] using World.cell?_spot h0
      obtain ⟨b,off,sp⟩ := ad
      simp only at hsp
      subst hsp
      refine ⟨b,off,rfl, ?_,fun i u hu => ?_⟩
      · rw [Xb] at h0
        have := World.block_lt_of_cell? w _ h0
        simpa using this
      · have := hcell i u hu
        rwa [Xb] at this
theorem Zxa {f : Nat} (hent : ∀ args w,(callFunc f args).run P w = .ok (.enter f args) w)
    (hc : ∀ (a : Option Addr) (len cap : Nat) (nm : Nat → ByteArray) (z : Nat → Int) (s : ByteArray) (w : World),len ≤ 1000000 →
      (len = 0 ∨ ∃ b off,a = some ⟨b,off,none⟩ ∧ b < w.heap.size ∧ ∀ j,j < len → w.cell? ⟨b,off + j * 2,none⟩ = some (.string (nm j)) ∧ w.cell? ⟨b,off + j * 2 + 1,none⟩ = some (.int .u64 (z j))) →
      Calls P f #[.slice a len cap,.string s] w fun e w' => e = .returned (.tuple #[.int .u64 (Zi6 nm z s len).1,.bool (Zi6 nm z s len).2]) ∧ Below w.heap.size w w') : Zp P f Zeb glob := by
  refine Zds fun ds h p d h' hrun => ?_
  unfold Zeb at hrun
  split at hrun
  · rename_i e nm
    split at hrun
    · rename_i n cs hcs
      cases hq : Nat.ble n 1000000 && Nat.beq cs.length (n * 2) with
      | false => rw [hq] at hrun; cases p <;> cases hrun
      | true =>
        rw [hq] at hrun
        simp only [cond_true] at hrun
        simp only [Bool.and_eq_true] at hq
        split at hrun
        · rename_i z ok hsc
          cases p with
          | true => cases hrun
          | false =>
            cases hrun
            refine ⟨rfl,rfl,fun top g w args hr hargs => ⟨hent args w, ?_⟩⟩
            obtain ⟨v1,v2,rfl,h1,h2⟩ := hargs.two'
            obtain ⟨s,rfl,rfl⟩ := h2.str'
            have hlen := Nat.eq_of_beq_eq_true hq.2
            obtain ⟨a,cap,vs,rfl,hvs,hel⟩ := Z48 hr hcs hlen (by omega) h1
            obtain ⟨e1,e2⟩ := Zt8 (g := g) s (vs := vs) n 0 cs (z,ok) hlen (by simpa using hvs) hsc
            rw [Nat.zero_add] at e1 e2
            refine ⟨_, ?_,hc a n cap (Zwd vs 2) (zf vs 2 1) s w (Nat.le_of_ble_eq_true hq.1) ?_⟩
            · rw [← e1]
              exact .tup' (.cons (.int _ _) (.cons (.v _) (.nil g)))
            · rcases hel with h0 | ⟨b,off,rfl,hb,hcell⟩
              · exact .inl h0
              · exact .inr ⟨b,off,rfl,hb,fun j hj => by
                  have := e2 j (Nat.zero_le _) hj
                  exact ⟨hcell _ _ this.1,by have := hcell _ _ this.2; rwa [← Nat.add_assoc] at this⟩⟩
        · cases p <;> cases hrun
    · cases p <;> cases hrun
  · cases p <;> cases hrun
theorem Zu7 (ds : List D) (h : H) : Xv h (Zeb ds h) := by
  refine WG fun p d h' hr => ?_
  unfold Zeb at hr
  split at hr
  · split at hr
    · rename_i n cs hcs
      cases hq : Nat.ble n 1000000 && Nat.beq cs.length (n * 2) with
      | false => rw [hq] at hr; cases p <;> cases hr
      | true =>
        rw [hq] at hr
        simp only [cond_true] at hr
        split at hr <;> cases p <;> cases hr
        rfl
    · cases p <;> cases hr
  · cases p <;> cases hr
def Zii (ds : List D) (h : H) : O D :=
  match ds with
  | [.ptr l off,.str nm] => match Z3 h (.ptr l (off + 1)) 1 with
    | some [e] => match Zz h 3 e with
      | some (n,cs) => bif Nat.ble n 1000000 && Nat.beq cs.length (n * 3) then (match Zt7 nm (0,0,false) cs with
        | some (z,y,ok) => .ok (.agg [.int .u64 z,.int .u64 y,.v (.bool ok)]) h
        | none => .fail "name") else .fail "name"
      | none => .fail "name"
    | _ => .fail "name"
  | _ => .fail "name"
theorem Zu6 {f : Nat} (hent : ∀ args w,(callFunc f args).run P w = .ok (.enter f args) w)
    (hc : ∀ (rb ro : Nat) (a : Option Addr) (len cap : Nat) (nm : Nat → ByteArray) (z y : Nat → Int) (s : ByteArray) (w : World),len ≤ 1000000 → w.cell? ⟨rb,ro + 1,none⟩ = some (.slice a len cap) →
      (len = 0 ∨ ∃ b off,a = some ⟨b,off,none⟩ ∧ b < w.heap.size ∧ ∀ j,j < len → w.cell? ⟨b,off + j * 3,none⟩ = some (.string (nm j)) ∧ w.cell? ⟨b,off + j * 3 + 1,none⟩ = some (.int .u64 (z j)) ∧ w.cell? ⟨b,off + j * 3 + 2,none⟩ = some (.int .u64 (y j))) →
      Calls P f #[.pointer (some ⟨rb,ro,none⟩),.string s] w fun e w' => e = .returned (.agg #[.int .u64 (Zhu nm z y s len).1,.int .u64 (Zhu nm z y s len).2.1,.bool (Zhu nm z y s len).2.2]) ∧ Below w.heap.size w w') : Zp P f Zii glob := by
  refine Zds fun ds h p d h' hrun => ?_
  unfold Zii at hrun
  split at hrun
  · rename_i l off nm
    split at hrun
    · rename_i e hrd
      split at hrun
      · rename_i n cs hcs
        cases hq : Nat.ble n 1000000 && Nat.beq cs.length (n * 3) with
        | false => rw [hq] at hrun; cases p <;> cases hrun
        | true =>
          rw [hq] at hrun
          simp only [cond_true] at hrun
          simp only [Bool.and_eq_true] at hq
          split at hrun
          · rename_i z y ok hsc
            cases p with
            | true => cases hrun
            | false =>
              cases hrun
              refine ⟨rfl,rfl,fun top g w args hr hargs => ⟨hent args w, ?_⟩⟩
              obtain ⟨v1,v2,rfl,h1,h2⟩ := hargs.two'
              obtain ⟨s,rfl,rfl⟩ := h2.str'
              cases h1 with
              | ptr hbl =>
                rename_i b
                obtain ⟨b',o',us,hp,hus,hul,hucell⟩ := WF hr hrd (.ptr (off := off + 1) hbl)
                cases hp
                obtain ⟨u,hu0,hur⟩ := hus.some (i := 0) rfl
                have hlen := Nat.eq_of_beq_eq_true hq.2
                obtain ⟨a,cap,vs,rfl,hvs,hel⟩ := Z48 hr hcs hlen (by omega) hur
                obtain ⟨e1,e2⟩ := Zt6 (g := g) s (vs := vs) n 0 cs (z,y,ok) hlen (by simpa using hvs) hsc
                rw [Nat.zero_add] at e1 e2
                refine ⟨_, ?_,hc b off a n cap (Zwd vs 3) (zf vs 3 1) (zf vs 3 2) s w (Nat.le_of_ble_eq_true hq.1) (hucell 0 _ hu0) ?_⟩
                · rw [← e1]
                  exact .agg' (.cons (.int _ _) (.cons (.int _ _) (.cons (.v _) (.nil g))))
                · rcases hel with h0 | ⟨b,off,rfl,hb,hcell⟩
                  · exact .inl h0
                  · exact .inr ⟨b,off,rfl,hb,fun j hj => by
                      have := e2 j (Nat.zero_le _) hj
                      exact ⟨hcell _ _ this.1,by have := hcell _ _ this.2.1; rwa [← Nat.add_assoc] at this,by have := hcell _ _ this.2.2; rwa [← Nat.add_assoc] at this⟩⟩
          · cases p <;> cases hrun
      · cases p <;> cases hrun
    · cases p <;> cases hrun
  · cases p <;> cases hrun
theorem Zst (ds : List D) (h : H) : Xv h (Zii ds h) := by
  refine WG fun p d h' hr => ?_
  unfold Zii at hr
  split at hr
  · split at hr
    · split at hr
      · rename_i n cs hcs
        cases hq : Nat.ble n 1000000 && Nat.beq cs.length (n * 3) with
        | false => rw [hq] at hr; cases p <;> cases hr
        | true =>
          rw [hq] at hr
          simp only [cond_true] at hr
          split at hr <;> cases p <;> cases hr
          rfl
      · cases p <;> cases hr
    · cases p <;> cases hr
  · cases p <;> cases hr
end
end
end Go.Abs
namespace Go.Abs
noncomputable section
open Go.RowKit
section
variable {P : Program} {top : Nat} {glob : Nat → Option (List D)} {g : G} {h h' : H} {w w' : World}
def Zlt (P : Program) (f : Nat) (ds : List D) (h : H) : O D :=
  match Zgj ds with
  | some vs => match Zf9 P (callFunc f vs.toArray) with
    | some (.value v) => .ok (.of v) h
    | _ => .fail "no body"
  | none => .fail "no body"
theorem Zxb (f : Nat) : Zp P f (Zlt P f) glob := by
  intro ds h p d h' hrun top g w args htop hr hglob hargs
  unfold Zlt at hrun
  split at hrun
  · rename_i vs hvs
    split at hrun
    · rename_i v hv
      cases p with
      | true => cases hrun
      | false =>
        cases hrun
        have : args = vs.toArray := by
          have := Zlj hvs hargs
          rw [← this]
        subst this
        exact .inr ⟨rfl,v,w,Wr hv w,ZB.same hr (.of g v)⟩
    · cases p <;> cases hrun
  · cases p <;> cases hrun
theorem Zu8 (f : Nat) (ds : List D) (h : H) : Xv h (Zlt P f ds h) := by
  refine WG fun p d h' hr => ?_
  unfold Zlt at hr
  split at hr
  · split at hr <;> cases p <;> cases hr
    rfl
  · cases p <;> cases hr
def XZ (T : TypeId) (ds : List D) (h : H) : O D :=
  match ds with
  | [.ptr l 0] => match h.mem.get l with
    | some (.cells t [.v (.pointer none),y]) => bif Nat.beq t T then .ok (.tup []) (h.put l (.cells t [.ptr l 0,y])) else .fail "copyCheck"
    | some (.cells t [.ptr k 0,y]) => bif Nat.beq k l then .ok (.tup []) h else .fail "copyCheck"
    | _ => .fail "copyCheck"
  | _ => .fail "copyCheck"
theorem Zu2 {x y : D} {t : TypeId} {ob : Obj} (hl : Lies g (.cells t [x,y]) ob) : ∃ u v,ob = .cells #[u,v] t (0,0) ∧ VRel g x u ∧ VRel g y v := by
  cases hl with
  | cells hv =>
    obtain ⟨u,v,rfl,h1,h2⟩ := hv.two'
    exact ⟨u,v,rfl,h1,h2⟩
theorem Zsu {f : Nat} {T : TypeId} (hent : ∀ args w,(callFunc f args).run P w = .ok (.enter f args) w)
    (hfresh : ∀ (b : Nat) (w : World),w.cell? ⟨b,0,none⟩ = some (.pointer none) → w.shape? b = some (T,2) → w.frozen? ⟨b,0,none⟩ = false →
      Calls P f #[.pointer (some ⟨b,0,none⟩)] w fun e w' => e = .returned (.tuple #[]) ∧ w' = w.setCell ⟨b,0,none⟩ (.pointer (some ⟨b,0,none⟩)))
    (hused : ∀ (b : Nat) (w : World),w.cell? ⟨b,0,none⟩ = some (.pointer (some ⟨b,0,none⟩)) → Calls P f #[.pointer (some ⟨b,0,none⟩)] w fun e w' => e = .returned (.tuple #[]) ∧ w' = w) : Zp P f (XZ T) glob := by
  intro ds h p d h' hrun top g w args htop hr hglob hargs
  unfold XZ at hrun
  split at hrun
  · rename_i l
    obtain ⟨v1,rfl,h1⟩ := hargs.one'
    cases h1 with
    | ptr hbl =>
      rename_i b
      split at hrun
      · rename_i t y hm
        cases hq : Nat.beq t T with
        | false => rw [hq] at hrun; cases p <;> cases hrun
        | true =>
          rw [hq] at hrun
          cases p with
          | true => cases hrun
          | false =>
            cases hrun
            have := Nat.eq_of_beq_eq_true hq
            subst this
            obtain ⟨b',ob,hb',hob,hlies⟩ := hr.obj l _ hm (by intro n e he; cases he)
            rw [hbl] at hb'
            cases hb'
            obtain ⟨u,v,rfl,hu,hv⟩ := Zu2 hlies
            cases hu
            have hlt : b < w.heap.size := (Array.getElem?_eq_some_iff.1 hob).1
            refine .inl ⟨hent _ w,(hfresh b w (by simp [World.cell?,hob]) (by simp [World.shape?,hob]) (by simp [World.frozen?,hob])).mono ?_⟩
            rintro e w' ⟨rfl,rfl⟩
            obtain ⟨he,hr'⟩ := hr.put (w' := w.setCell ⟨b,0,none⟩ (.pointer (some ⟨b,0,none⟩))) (o' := .cells t [.ptr l 0,y]) (ob := .cells #[.pointer (some ⟨b,0,none⟩),v] t (0,0)) hm (by intro n e he; cases he) hbl
              ⟨rfl,rfl,rfl,by simp [World.setCell],fun k _ hk => Below.heap_setCell _ _ _ k (fun e => hk (by rw [e]))⟩ (by simp [World.setCell])
              (by simp [World.setCell,Array.getElem?_modify,hob]) (.cells (.cons (.ptr hbl) (.cons hv (.nil g))))
            exact ⟨.tuple #[],rfl,g,he,hr',.tup' (.nil g)⟩
      · rename_i t k y hm
        cases hq : Nat.beq k l with
        | false => rw [hq] at hrun; cases p <;> cases hrun
        | true =>
          rw [hq] at hrun
          cases p with
          | true => cases hrun
          | false =>
            cases hrun
            have := Nat.eq_of_beq_eq_true hq
            subst this
            obtain ⟨b',ob,hb',hob,hlies⟩ := hr.obj k _ hm (by intro n e he; cases he)
            rw [hbl] at hb'
            cases hb'
            obtain ⟨u,v,rfl,hu,hv⟩ := Zu2 hlies
            cases hu with
            | ptr hbl2 =>
              rw [hbl] at hbl2
              cases hbl2
              refine .inl ⟨hent _ w,(hused b w (by simp [World.cell?,hob])).mono ?_⟩
              rintro e w' ⟨rfl,rfl⟩
              exact ⟨.tuple #[],rfl,ZB.same hr (.tup' (.nil g))⟩
      · cases p <;> cases hrun
  · cases p <;> cases hrun
theorem Zp1 (T : TypeId) (ds : List D) (h : H) : Xv h (XZ T ds h) := by
  unfold XZ
  split
  · split
    · rename_i hm
      cases Nat.beq _ T with
      | true => exact Grow.put hm
      | false => trivial
    · cases Nat.beq _ _ with
      | true => exact Grow.refl _
      | false => trivial
    · trivial
  · trivial
def Zb2 (eb : TypeId) (ds : List D) (h : H) : O D :=
  match ds with
  | [.ptr l 0] => match Z3 h (.ptr l 1) 1 with
    | some [.sl id n cs] => match h.mem.get id,Wl cs with
      | some (.tip m e),some bs => bif Nat.beq m n && Nat.beq e eb && Nat.beq bs.length n && !Nat.beq n 0 then .ok (.str bs) ⟨h.next,h.mem.set id none⟩ else .fail "String"
      | _,_ => .fail "String"
    | _ => .fail "String"
  | _ => .fail "String"
theorem Zvh (w : World) (p : Addr) (n : Nat) (a : Addr) : (w.freeze p n).cell? a = w.cell? a := by
  unfold World.freeze
  split
  · rfl
  · simp only [World.cell?,Array.getElem?_modify]
    by_cases e : p.block = a.block
    · rw [if_pos e,← e]
      cases w.heap[p.block]? with
      | none => rfl
      | some o => cases o <;> rfl
    · rw [if_neg e]
theorem Zsx (w : World) (p : Addr) (n : Nat) (k : Nat) (hk : k ≠ p.block) : (w.freeze p n).heap[k]? = w.heap[k]? := by
  unfold World.freeze
  split
  · rfl
  · simp only [Array.getElem?_modify]; rw [if_neg (Ne.symm hk)]
theorem Zsy (w : World) (p : Addr) (n k : Nat) {ob ob' : Obj} (h : w.heap[k]? = some ob) (hc : Zpk ob = true) (h' : (w.freeze p n).heap[k]? = some ob') : Zpk ob' = true := by
  unfold World.freeze at h'
  split at h'
  · rw [h] at h'; cases h'; exact hc
  · simp only [Array.getElem?_modify] at h'
    split at h'
    · rw [h] at h'
      cases ob <;> cases h' <;> first | rfl | cases hc
    · rw [h] at h'; cases h'; exact hc
theorem Zvg (w : World) (p : Addr) (n : Nat) : (w.freeze p n).heap.size = w.heap.size := by
  unfold World.freeze
  split
  · rfl
  · simp
theorem Zp0 {f : Nat} {eb : TypeId} (heb : P.cellsOf eb = 1) (hent : ∀ args w,(callFunc f args).run P w = .ok (.enter f args) w)
    (hc : ∀ (b gb cap : Nat) (cur : Array Value) (l : List UInt8) (w : World),l ≠ [] → w.cell? ⟨b,1,none⟩ = some (.slice (some ⟨gb,0,none⟩) l.length cap) → w.heap[gb]? = some (.cells cur eb (0,0)) → l.length ≤ cap → cap ≤ maxLen → cur.size = cap * 1 →
      (∀ (j : Nat) x,l[j]? = some x → w.cell? ⟨gb,j,none⟩ = some (.int .u8 x.toNat)) →
      Calls P f #[.pointer (some ⟨b,0,none⟩)] w fun e w' => e = .returned (.string ⟨l.toArray⟩) ∧ w' = w.drew.freeze ⟨gb,0,none⟩ l.length) : Zp P f (Zb2 eb) glob := by
  intro ds h p d h' hrun top g w args htop hr hglob hargs
  unfold Zb2 at hrun
  split at hrun
  · rename_i l
    obtain ⟨v1,rfl,h1⟩ := hargs.one'
    cases h1 with
    | ptr hbl =>
      rename_i b
      split at hrun
      · rename_i id n cs hrd
        split at hrun
        · rename_i m e bs hm hbs
          cases hq : Nat.beq m n && Nat.beq e eb && Nat.beq bs.length n && !Nat.beq n 0 with
          | false => rw [hq] at hrun; cases p <;> cases hrun
          | true =>
            rw [hq] at hrun
            cases p with
            | true => cases hrun
            | false =>
              simp only [cond_true] at hrun
              cases hrun
              simp only [Bool.and_eq_true] at hq
              obtain ⟨⟨⟨q1,q2⟩,q3⟩,q4⟩ := hq
              have := Nat.eq_of_beq_eq_true q1
              subst this
              have := Nat.eq_of_beq_eq_true q2
              subst this
              have hbl3 := Nat.eq_of_beq_eq_true q3
              have hn0 : m ≠ 0 := fun e => by subst e; simp at q4
              obtain ⟨b',o',us,hp,hus,hul,hucell⟩ := WF hr hrd (.ptr (off := 1) hbl)
              cases hp
              obtain ⟨u,hu0,hur⟩ := hus.some (i := 0) rfl
              have hc1 : w.cell? ⟨b,1,none⟩ = some u := hucell 0 u hu0
              obtain ⟨gb,cap,xs,hsl,hown,himm,hlast⟩ := hr.tip id m e hm
              have hid : id ≠ 0 := fun e => by subst e; rw [hr.pos.2] at hm; cases hm
              cases hur with
              | sl hcap hcs hidr =>
                rename_i a cap'
                obtain ⟨hs1,hs2,hs3⟩ := hidr hid
                obtain ⟨ab,ao,asp⟩ := a
                simp only at hs1 hs2 hs3
                subst hs1 hs2
                rw [hsl] at hs3
                cases hs3
                -- the bytes
                obtain ⟨hbe,hb256⟩ := Zgz hbs
                let l8 : List UInt8 := bs.map UInt8.ofNat
                have hl8 : l8.length = m := by simp [l8,hbl3]
                have hmap : l8.map (·.toNat) = bs := by
                  simp only [l8,List.map_map]
                  have : ∀ x ∈ bs,((fun y : UInt8 => y.toNat) ∘ UInt8.ofNat) x = x := fun x hx => by
                    have := hb256 x hx
                    simp only [Function.comp]
                    simp
                    omega
                  exact (List.map_congr_left this).trans (List.map_id _)
                have hne : l8 ≠ [] := fun e => by rw [e] at hl8; simp at hl8; omega
                obtain ⟨g',cap2,cur,hv,_,hheap,hncap,hcm,hcur,htake⟩ : ∃ g' cap2 cur,Value.slice (some ⟨gb,0,none⟩) m cap = .slice (some ⟨g',0,none⟩) m cap2 ∧ 0 ≤ g' ∧ w.heap[g']? = some (.cells cur e (0,0)) ∧ m ≤ cap2 ∧ cap2 ≤ maxLen ∧ cur.size = cap2 * P.cellsOf e ∧ cur.toList.take (m * P.cellsOf e) = xs := by
                  rcases hown.2 with ⟨hv,_⟩ | hh
                  · cases hv
                  · exact hh
                cases hv
                have hcells : ∀ (j : Nat) x,l8[j]? = some x → w.cell? ⟨gb,j,none⟩ = some (.int .u8 x.toNat) := by
                  intro j x hx
                  have hcj : cs[j]? = some (.int .u8 (.ofNat x.toNat)) := by
                    rw [hbe,← hmap,List.getElem?_map,List.getElem?_map,hx]; rfl
                  have h2 := (hcs j _ hcj).2
                  rw [Nat.zero_add] at h2
                  obtain ⟨v,hv,hvr⟩ := hr.imm _ _ _ h2
                  rw [hvr.int'] at hv
                  exact hv
                have hcall := hc b gb cap cur l8 w hne (by rw [hl8]; exact hc1) hheap (by rw [hl8]; exact hncap) hcm (by rw [hcur,heb]) hcells
                refine .inl ⟨hent _ w,hcall.mono ?_⟩
                rintro en w' ⟨rfl,rfl⟩
                have hown_id := hr.slown id m gb cap hsl
                have hcell : ∀ a,(w.drew.freeze ⟨gb,0,none⟩ l8.length).cell? a = w.cell? a := fun a => Zvh w.drew _ _ a
                have hother : ∀ k,k ≠ gb → (w.drew.freeze ⟨gb,0,none⟩ l8.length).heap[k]? = w.heap[k]? := fun k hk => Zsx w.drew _ _ k hk
                have hsize : (w.drew.freeze ⟨gb,0,none⟩ l8.length).heap.size = w.heap.size := Zvg w.drew _ _
                have hg : w.grownBy (w.drew.freeze ⟨gb,0,none⟩ l8.length) (some gb) := ⟨by unfold World.freeze; split <;> rfl,by unfold World.freeze; split <;> rfl,by unfold World.freeze; split <;> rfl,by rw [hsize]; exact Nat.le_refl _,fun k _ hk => hother k (fun e => hk (by rw [e]))⟩
                have hget : ∀ k,(h.mem.set id none).get k = if k = id then none else h.mem.get k := fun k => Tr.get_set _ _ _ _
                refine ⟨_,rfl,g,⟨.refl g,fun _ _ x => x,fun _ _ => rfl,hg.os,hg.tape,hg.output,by rw [hsize]; exact Nat.le_refl _,fun x hx hf => hother x (fun e => ?_),fun k hk hn => ?_,Nat.le_refl _,fun _ x _ => x,fun _ _ _ _ => rfl,fun _ _ _ _ => rfl⟩,
                  ⟨fun k o ho hn => ?_,fun k n e hi => ?_,fun x y d hd => ?_,hr.blkown,hr.slown,hr.name,fun k hk => ?_,hr.le,fun x hx => hr.block x (by rwa [hsize] at hx),⟨hr.pos.1, ?_⟩,hr.slblk,fun x k hx ox hox => ?_⟩, ?_⟩
                · subst e
                  have := hf id hown_id
                  rw [hm] at this; cases this
                · show (h.mem.set id none).get k = none
                  rw [hget]; split
                  · rfl
                  · exact hn
                · have ho' : (if k = id then none else h.mem.get k) = some o := by rw [← hget]; exact ho
                  split at ho'
                  · cases ho'
                  · rename_i hki
                    obtain ⟨x,ox,e1,e2,e3⟩ := hr.obj k o ho' hn
                    refine ⟨x,ox,e1,(hother x fun e => ?_).trans e2,e3⟩
                    subst e
                    have := (hr.blkown k x e1).1
                    rw [hown_id] at this
                    cases this
                    exact hki rfl
                · have hi' : (if k = id then none else h.mem.get k) = some (.tip n e) := by rw [← hget]; exact hi
                  split at hi'
                  · cases hi'
                  · rename_i hki
                    obtain ⟨x,cap2,ys,e1,e2,e3,e4⟩ := hr.tip k n e hi'
                    refine ⟨x,cap2,ys,e1,e2.kept hg (.inr fun eq => ?_),e3,e4⟩
                    simp [Value.ownBlock] at eq
                    subst eq
                    have := hr.slown k n x cap2 e1
                    rw [hown_id] at this
                    cases this
                    exact hki rfl
                · obtain ⟨v,hv,hd'⟩ := hr.imm x y d hd
                  exact ⟨v,(hcell _).trans hv,hd'⟩
                · show (h.mem.set id none).get k = none
                  rw [hget]; split
                  · rfl
                  · exact hr.dom k hk
                · show (h.mem.set id none).get 0 = none
                  rw [hget]; split
                  · rfl
                  · exact hr.pos.2
                · by_cases ex : x = gb
                  · subst ex
                    obtain ⟨x2,cap2,ys,e1,e2,_,_⟩ := hr.tip id _ _ hm
                    rw [hsl] at e1
                    cases e1
                    rcases e2.2 with ⟨q,_⟩ | ⟨g0,cap0,cur,q,q1,q2,q3⟩
                    · cases q
                    · cases q; exact .inl (Zsy w.drew _ _ _ q2 rfl hox)
                  · rw [hother x ex] at hox
                    exact hr.ownk x k hx ox hox
                · have := VRel.str (g := g) ⟨l8.toArray⟩
                  have e : ZE ⟨l8.toArray⟩ = bs := by simp only [ZE]; exact hmap
                  rwa [e] at this
        · cases p <;> cases hrun
      · cases p <;> cases hrun
  · cases p <;> cases hrun
theorem Zot (eb : TypeId) (ds : List D) (h : H) : Xv h (Zb2 eb ds h) := by
  unfold Zb2
  split
  · split
    · split
      · cases Nat.beq _ _ && Nat.beq _ eb && Nat.beq _ _ && !Nat.beq _ 0 with
        | false => trivial
        | true =>
          rename_i id n cs hrd _ _ m e bs hm hbs
          have hget : ∀ k,(h.mem.set id none).get k = if k = id then none else h.mem.get k := fun k => Tr.get_set _ _ _ _
          refine ⟨Nat.le_refl _,fun d k hk => ?_,fun k hk hn => ?_⟩
          · show (h.mem.set id none).get k = none
            rw [hget]; split
            · rfl
            · exact d k hk
          · show (h.mem.set id none).get k = none
            rw [hget]; split
            · rfl
            · exact hn
      · trivial
    · trivial
  · trivial
end
end
end Go.Abs
