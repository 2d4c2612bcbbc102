/- The description of elf, plainly. -/
import Derived.Test.YthifolidfjpdkaaGreatDoorReV
import Derived.Test.YthifolidfjpdkaaGreatDoorNdElf
import Derived.Test.YthifolidfjpdkaaGreatDoorRfF
set_option linter.unusedVariables false
set_option linter.unusedSimpArgs false
namespace Go.Abs
noncomputable section
namespace Run
variable {E : Env} {T : Nat → ZV}
set_option maxHeartbeats 4000000
set_option maxRecDepth 100000
section
variable {h : H} {Q : D → H → Prop} {R : ZM}
def Zr4 {α : Type} (enc : α → List D) : List α → D
  | [] => .v (.slice none 0 0)
  | x :: r => .sl 0 (r.length + 1) ((x :: r).map enc).flatten
theorem Zk3 {α : Type} {F : α → List D → Prop} {enc : α → List D} {z : Nat} (xs : List α) (hf : ∀ x,F x (enc x)) (hz : ∀ x,(enc x).length = z) : Zaj F z (Zr4 enc xs) xs := by
  refine ⟨xs.map enc,⟨List.length_map ..,fun i x c h1 h2 => ?_⟩,fun c hc => ?_, ?_⟩
  · rw [List.getElem?_map,h1] at h2
    cases h2
    exact hf x
  · obtain ⟨x,_,rfl⟩ := List.mem_map.mp hc
    exact hz x
  · cases xs with
    | nil => exact Or.inl ⟨rfl,rfl⟩
    | cons x r => exact Or.inr ⟨0,by rw [List.length_map]; rfl,by simp⟩
def encK (n : Nat) : List D := [.int .i64 (.ofNat n)]
def Zs5 (x : XE) : List D := [.int .i64 (.ofNat x.k),.str x.op,.int .u64 (.ofNat x.n),.str x.nm,Zr4 encK x.kids]
def encC (x : XC) : List D := [.int .u64 (.ofNat x.n),.int .i64 (.ofNat x.ty)]
def encT (x : XT') : List D := [.int .i64 (.ofNat x.k),.int .i64 (.ofNat x.size),.v (.bool x.lit),.str x.nm,.v (.slice none 0 0),.int .i64 x.ex,.int .i64 x.inn,Zr4 encC x.cs]
def encI (x : XI) : List D := [.str x.nm,.int .i64 (.ofNat x.ty),.int .i64 (.ofNat x.der),.str x.a,.str x.b,.int .i64 x.wh,.int .i64 (.ofNat 0),.v (.bool false),.v (.slice none 0 0)]
def encS (x : XS) : List D := [.str x.nm,.v (.slice none 0 0),Zr4 encI x.is]
theorem Z8n (l : List XE) : Zaj XER 5 (Zr4 Zs5 l) l := Zk3 l (fun x => ⟨_,rfl,Zk3 _ (fun _ => rfl) fun _ => rfl⟩) fun _ => rfl
theorem Z8l (l : List XT') : Zaj XTR 8 (Zr4 encT l) l := Zk3 l (fun x => ⟨_,rfl,Zk3 _ (fun _ => rfl) fun _ => rfl⟩) fun _ => rfl
theorem Z8m (l : List XS) : Zaj XSR 3 (Zr4 encS l) l := Zk3 l (fun x => ⟨_,rfl,Zk3 _ (fun _ => rfl) fun _ => rfl⟩) fun _ => rfl
def encF (F : XF) : D := Y3 (Zr4 encS F.ss) (Zr4 Zs5 F.es) (Zr4 encT F.ts)
def ZS : XF where
  ss := [⟨[83,101,99,116,105,111,110],[⟨[110,97,109,101],0,0,[],[],(.negSucc 0)⟩,
    ⟨[107,105,110,100],1,0,[],[],(.negSucc 0)⟩,
    ⟨[102,108,97,103,115],2,0,[],[],(.negSucc 0)⟩,
    ⟨[97,100,100,114,101,115,115],3,0,[],[],(.negSucc 0)⟩,
    ⟨[111,102,102,115,101,116],4,0,[],[],(.negSucc 0)⟩,
    ⟨[115,105,122,101],5,0,[],[],(.negSucc 0)⟩,
    ⟨[108,105,110,107],6,0,[],[],(.negSucc 0)⟩,
    ⟨[105,110,102,111],7,0,[],[],(.negSucc 0)⟩,
    ⟨[97,108,105,103,110],8,0,[],[],(.negSucc 0)⟩,
    ⟨[101,97,99,104],9,0,[],[],(.negSucc 0)⟩,
    ⟨[100,97,116,97],14,0,[],[],(.negSucc 0)⟩]⟩,
    ⟨[70,105,108,101],[⟨[109,97,103,105,99],15,0,[],[],(.ofNat 5)⟩,
    ⟨[99,108,97,115,115],16,0,[],[],(.ofNat 8)⟩,
    ⟨[111,114,100,101,114],17,0,[],[],(.ofNat 11)⟩,
    ⟨[105,100,101,110,116],18,0,[],[],(.ofNat 14)⟩,
    ⟨[97,98,105],19,0,[],[],(.negSucc 0)⟩,
    ⟨[112,97,100],20,0,[],[],(.negSucc 0)⟩,
    ⟨[107,105,110,100],21,0,[],[],(.negSucc 0)⟩,
    ⟨[109,97,99,104,105,110,101],22,0,[],[],(.negSucc 0)⟩,
    ⟨[118,101,114,115,105,111,110],23,0,[],[],(.ofNat 18)⟩,
    ⟨[101,110,116,114,121],24,0,[],[],(.negSucc 0)⟩,
    ⟨[112,114,111,103,114,97,109,115],25,0,[],[],(.negSucc 0)⟩,
    ⟨[115,101,99,116,105,111,110,115],26,0,[],[],(.negSucc 0)⟩,
    ⟨[102,108,97,103,115],27,0,[],[],(.negSucc 0)⟩,
    ⟨[111,119,110],28,0,[],[],(.ofNat 21)⟩,
    ⟨[112,114,111,103,114,97,109,115,105,122,101],29,0,[],[],(.negSucc 0)⟩,
    ⟨[112,114,111,103,114,97,109,99,111,117,110,116],30,0,[],[],(.negSucc 0)⟩,
    ⟨[115,101,99,116,105,111,110,115,105,122,101],31,0,[],[],(.ofNat 24)⟩,
    ⟨[99,111,117,110,116],32,0,[],[],(.negSucc 0)⟩,
    ⟨[110,97,109,101,115],33,0,[],[],(.negSucc 0)⟩,
    ⟨[116,97,98,108,101],36,0,[],[],(.negSucc 0)⟩,
    ⟨[111,116,104,101,114,115],38,0,[],[],(.negSucc 0)⟩]⟩]
  es := [⟨1,[],0,[107,105,110,100],[]⟩,
    ⟨1,[],0,[111,102,102,115,101,116],[]⟩,
    ⟨1,[],0,[115,105,122,101],[]⟩,
    ⟨1,[],0,[109,97,103,105,99],[]⟩,
    ⟨0,[],2135247942,[],[]⟩,
    ⟨3,[61,61],0,[],[3,4]⟩,
    ⟨1,[],0,[99,108,97,115,115],[]⟩,
    ⟨0,[],2,[],[]⟩,
    ⟨3,[61,61],0,[],[6,7]⟩,
    ⟨1,[],0,[111,114,100,101,114],[]⟩,
    ⟨0,[],1,[],[]⟩,
    ⟨3,[61,61],0,[],[9,10]⟩,
    ⟨1,[],0,[105,100,101,110,116],[]⟩,
    ⟨0,[],1,[],[]⟩,
    ⟨3,[61,61],0,[],[12,13]⟩,
    ⟨0,[],8,[],[]⟩,
    ⟨1,[],0,[118,101,114,115,105,111,110],[]⟩,
    ⟨0,[],1,[],[]⟩,
    ⟨3,[61,61],0,[],[16,17]⟩,
    ⟨1,[],0,[111,119,110],[]⟩,
    ⟨0,[],64,[],[]⟩,
    ⟨3,[61,61],0,[],[19,20]⟩,
    ⟨1,[],0,[115,101,99,116,105,111,110,115,105,122,101],[]⟩,
    ⟨0,[],64,[],[]⟩,
    ⟨3,[61,61],0,[],[22,23]⟩,
    ⟨1,[],0,[115,101,99,116,105,111,110,115],[]⟩,
    ⟨1,[],0,[99,111,117,110,116],[]⟩,
    ⟨0,[],1,[],[]⟩]
  ts := [⟨0,4,true,[],(.negSucc 0),(.negSucc 0),[]⟩,
    ⟨0,4,true,[],(.negSucc 0),(.negSucc 0),[]⟩,
    ⟨0,8,true,[],(.negSucc 0),(.negSucc 0),[]⟩,
    ⟨0,8,true,[],(.negSucc 0),(.negSucc 0),[]⟩,
    ⟨0,8,true,[],(.negSucc 0),(.negSucc 0),[]⟩,
    ⟨0,8,true,[],(.negSucc 0),(.negSucc 0),[]⟩,
    ⟨0,4,true,[],(.negSucc 0),(.negSucc 0),[]⟩,
    ⟨0,4,true,[],(.negSucc 0),(.negSucc 0),[]⟩,
    ⟨0,8,true,[],(.negSucc 0),(.negSucc 0),[]⟩,
    ⟨0,8,true,[],(.negSucc 0),(.negSucc 0),[]⟩,
    ⟨11,0,false,[],(.negSucc 0),(.negSucc 0),[]⟩,
    ⟨11,0,false,[],(.negSucc 0),(.negSucc 0),[]⟩,
    ⟨1,0,false,[],(.ofNat 2),(.negSucc 0),[]⟩,
    ⟨8,0,false,[],(.ofNat 1),(.ofNat 12),[]⟩,
    ⟨9,0,false,[],(.ofNat 0),(.ofNat 13),[⟨0,10⟩,⟨8,11⟩]⟩,
    ⟨0,4,false,[],(.negSucc 0),(.negSucc 0),[]⟩,
    ⟨0,1,false,[],(.negSucc 0),(.negSucc 0),[]⟩,
    ⟨0,1,false,[],(.negSucc 0),(.negSucc 0),[]⟩,
    ⟨0,1,false,[],(.negSucc 0),(.negSucc 0),[]⟩,
    ⟨0,1,false,[],(.negSucc 0),(.negSucc 0),[]⟩,
    ⟨2,0,false,[],(.ofNat 15),(.negSucc 0),[]⟩,
    ⟨0,2,true,[],(.negSucc 0),(.negSucc 0),[]⟩,
    ⟨0,2,true,[],(.negSucc 0),(.negSucc 0),[]⟩,
    ⟨0,4,true,[],(.negSucc 0),(.negSucc 0),[]⟩,
    ⟨0,8,true,[],(.negSucc 0),(.negSucc 0),[]⟩,
    ⟨0,8,true,[],(.negSucc 0),(.negSucc 0),[]⟩,
    ⟨0,8,true,[],(.negSucc 0),(.negSucc 0),[]⟩,
    ⟨0,4,true,[],(.negSucc 0),(.negSucc 0),[]⟩,
    ⟨0,2,true,[],(.negSucc 0),(.negSucc 0),[]⟩,
    ⟨0,2,true,[],(.negSucc 0),(.negSucc 0),[]⟩,
    ⟨0,2,true,[],(.negSucc 0),(.negSucc 0),[]⟩,
    ⟨0,2,true,[],(.negSucc 0),(.negSucc 0),[]⟩,
    ⟨0,2,true,[],(.negSucc 0),(.negSucc 0),[]⟩,
    ⟨0,2,true,[],(.negSucc 0),(.negSucc 0),[]⟩,
    ⟨10,0,false,[83,101,99,116,105,111,110],(.negSucc 0),(.negSucc 0),[]⟩,
    ⟨5,0,false,[],(.ofNat 26),(.ofNat 34),[]⟩,
    ⟨8,0,false,[],(.ofNat 25),(.ofNat 35),[]⟩,
    ⟨3,0,false,[],(.ofNat 27),(.negSucc 0),[]⟩,
    ⟨6,0,false,[],(.negSucc 0),(.ofNat 37),[]⟩]
theorem Zrg : encF ZS = Z5 := by kernel_rfl
theorem Zzk : FOk ZS := by
  refine ⟨?_, ?_,by decide⟩
  · intro t ht
    simp only [ZS,List.mem_cons,List.not_mem_nil,or_false] at ht
    rcases ht with rfl | rfl | rfl | rfl | rfl | rfl | rfl | rfl | rfl | rfl | rfl | rfl | rfl | rfl | rfl | rfl | rfl | rfl | rfl | rfl | rfl | rfl | rfl | rfl | rfl | rfl | rfl | rfl | rfl | rfl | rfl | rfl | rfl | rfl | rfl | rfl | rfl | rfl | rfl
    all_goals exact ⟨by decide,by intro h; first | exact ⟨_,rfl⟩ | (exfalso; revert h; decide),by intro h; first | exact ⟨_,rfl⟩ | (exfalso; revert h; decide),by decide,by intro h; first | exact ⟨_,rfl⟩ | (exfalso; revert h; decide)⟩
  · intro s hs
    simp only [ZS,List.mem_cons,List.not_mem_nil,or_false] at hs
    rcases hs with rfl | rfl
    all_goals
      refine ⟨by decide,fun y hy => ?_⟩
      simp only [List.mem_cons,List.not_mem_nil,or_false] at hy
    · rcases hy with rfl | rfl | rfl | rfl | rfl | rfl | rfl | rfl | rfl | rfl | rfl
      all_goals exact ⟨by decide,by first | exact Or.inl rfl | exact Or.inr ⟨_,rfl⟩,⟨_,rfl⟩⟩
    · rcases hy with rfl | rfl | rfl | rfl | rfl | rfl | rfl | rfl | rfl | rfl | rfl | rfl | rfl | rfl | rfl | rfl | rfl | rfl | rfl | rfl | rfl
      all_goals exact ⟨by decide,by first | exact Or.inl rfl | exact Or.inr ⟨_,rfl⟩,⟨_,rfl⟩⟩
end
section
variable {h : H} {Q : D → H → Prop} {R : ZM}
theorem numS_2 {n : Nat} (h : n < 256 ^ 2) : Zmy true (Zeo 2 n) = n := by
  show ((0 * 256 + n / 2 ^ min 8 64 % 256) * 256 + n / 2 ^ min 0 64 % 256) = n
  rw [show (2 : Nat) ^ min 8 64 = 256 by decide,show (2 : Nat) ^ min 0 64 = 1 by decide]
  have : (256 : Nat) ^ 2 = 65536 := by decide
  omega
theorem Zsm {n : Nat} (h : n < 256 ^ 4) : Zmy true (Zeo 4 n) = n := by
  show ((((0 * 256 + n / 2 ^ min 24 64 % 256) * 256 + n / 2 ^ min 16 64 % 256) * 256 + n / 2 ^ min 8 64 % 256) * 256 + n / 2 ^ min 0 64 % 256) = n
  rw [show (2 : Nat) ^ min 24 64 = 16777216 by decide,show (2 : Nat) ^ min 16 64 = 65536 by decide,show (2 : Nat) ^ min 8 64 = 256 by decide,show (2 : Nat) ^ min 0 64 = 1 by decide]
  have : (256 : Nat) ^ 4 = 4294967296 := by decide
  omega
theorem Zjl {n : Nat} (h : n < 256 ^ 4) : Zmy true (Zeo 8 n) = n := by
  show ((((((((0 * 256 + n / 2 ^ min 56 64 % 256) * 256 + n / 2 ^ min 48 64 % 256) * 256 + n / 2 ^ min 40 64 % 256) * 256 + n / 2 ^ min 32 64 % 256) * 256 + n / 2 ^ min 24 64 % 256) * 256 + n / 2 ^ min 16 64 % 256) * 256 + n / 2 ^ min 8 64 % 256) * 256 + n / 2 ^ min 0 64 % 256) = n
  rw [show (2 : Nat) ^ min 24 64 = 16777216 by decide,show (2 : Nat) ^ min 16 64 = 65536 by decide,show (2 : Nat) ^ min 8 64 = 256 by decide,show (2 : Nat) ^ min 0 64 = 1 by decide,show (2 : Nat) ^ min 56 64 = 72057594037927936 by decide,show (2 : Nat) ^ min 48 64 = 281474976710656 by decide,show (2 : Nat) ^ min 40 64 = 1099511627776 by decide,show (2 : Nat) ^ min 32 64 = 4294967296 by decide]
  have : (256 : Nat) ^ 4 = 4294967296 := by decide
  omega
section
variable {F : XF} {crc : Zm3} {inp : List Nat} {f : Nat} {y : XI} {e : Nat} {env : Ev} {al : Al} {p n q : Nat} {t : XT'} {v : Nat} {out : List V} {r : List XI}
theorem Z04 (h2 : F.ts[y.ty]? = some t) (h3 : t.k = 0) (h4 : p + t.size ≤ e) (h5 : Zmy t.lit (sub inp p t.size) = v) (h6 : n < 1048576) : Yi F crc inp (f + 1) y.ty env p e n = .ok (UW v) (p + t.size) (n + 1) := by
  rw [Yi,Zck,h2]
  simp only [h3,if_true]
  rw [if_neg (by omega),h5,VT,if_neg (by omega)]
theorem Y9 (h1 : Zmt y.nm al = false) (h2 : F.ts[y.ty]? = some t) (h3 : t.k = 0) (h4 : p + t.size ≤ e) (h5 : Zmy t.lit (sub inp p t.size) = v) (h6 : n < 1048576) (h7 : y.wh = .negSucc 0 ∨ ∃ a,y.wh = .ofNat a ∧ Zk8 F (env ++ [(y.nm,v)]) (.ofNat a) = (1,0)) (h8 : y.der = 0) (hq : p + t.size = q) : Yh F crc inp (Yi F crc inp (f + 1)) e (y :: r) env al out p n = Yh F crc inp (Yi F crc inp (f + 1)) e r (env ++ [(y.nm,v)]) (al ++ [(y.nm,p,q,UW v)]) (out ++ [UW v]) q (n + 1) := by
  subst hq
  have hi : Zg6 F y.ty = true := by rw [Zg6,h2]; exact decide_eq_true h3
  rw [Yh,UL,if_neg (by rw [h1]; decide),Z04 h2 h3 h4 h5 h6]
  simp only [RO.bind,hi,if_true,h8]
  rcases h7 with h7 | ⟨a,h7,h9⟩
  · rw [h7]; rfl
  · rw [h7]
    have h9' : Zk8 F (env ++ [(y.nm,(UW v).n)]) (.ofNat a) = (1,0) := h9
    simp only [h9']
    rfl
end
end
section
variable {h : H} {Q : D → H → Prop} {R : ZM}
def Zvk : List XI := [⟨[109,97,103,105,99],15,0,[],[],(.ofNat 5)⟩,
  ⟨[99,108,97,115,115],16,0,[],[],(.ofNat 8)⟩,
  ⟨[111,114,100,101,114],17,0,[],[],(.ofNat 11)⟩,
  ⟨[105,100,101,110,116],18,0,[],[],(.ofNat 14)⟩,
  ⟨[97,98,105],19,0,[],[],(.negSucc 0)⟩,
  ⟨[112,97,100],20,0,[],[],(.negSucc 0)⟩,
  ⟨[107,105,110,100],21,0,[],[],(.negSucc 0)⟩,
  ⟨[109,97,99,104,105,110,101],22,0,[],[],(.negSucc 0)⟩,
  ⟨[118,101,114,115,105,111,110],23,0,[],[],(.ofNat 18)⟩,
  ⟨[101,110,116,114,121],24,0,[],[],(.negSucc 0)⟩,
  ⟨[112,114,111,103,114,97,109,115],25,0,[],[],(.negSucc 0)⟩,
  ⟨[115,101,99,116,105,111,110,115],26,0,[],[],(.negSucc 0)⟩,
  ⟨[102,108,97,103,115],27,0,[],[],(.negSucc 0)⟩,
  ⟨[111,119,110],28,0,[],[],(.ofNat 21)⟩,
  ⟨[112,114,111,103,114,97,109,115,105,122,101],29,0,[],[],(.negSucc 0)⟩,
  ⟨[112,114,111,103,114,97,109,99,111,117,110,116],30,0,[],[],(.negSucc 0)⟩,
  ⟨[115,101,99,116,105,111,110,115,105,122,101],31,0,[],[],(.ofNat 24)⟩,
  ⟨[99,111,117,110,116],32,0,[],[],(.negSucc 0)⟩,
  ⟨[110,97,109,101,115],33,0,[],[],(.negSucc 0)⟩,
  ⟨[116,97,98,108,101],36,0,[],[],(.negSucc 0)⟩,
  ⟨[111,116,104,101,114,115],38,0,[],[],(.negSucc 0)⟩]
def Z0c : List XI := [⟨[110,97,109,101],0,0,[],[],(.negSucc 0)⟩,
  ⟨[107,105,110,100],1,0,[],[],(.negSucc 0)⟩,
  ⟨[102,108,97,103,115],2,0,[],[],(.negSucc 0)⟩,
  ⟨[97,100,100,114,101,115,115],3,0,[],[],(.negSucc 0)⟩,
  ⟨[111,102,102,115,101,116],4,0,[],[],(.negSucc 0)⟩,
  ⟨[115,105,122,101],5,0,[],[],(.negSucc 0)⟩,
  ⟨[108,105,110,107],6,0,[],[],(.negSucc 0)⟩,
  ⟨[105,110,102,111],7,0,[],[],(.negSucc 0)⟩,
  ⟨[97,108,105,103,110],8,0,[],[],(.negSucc 0)⟩,
  ⟨[101,97,99,104],9,0,[],[],(.negSucc 0)⟩,
  ⟨[100,97,116,97],14,0,[],[],(.negSucc 0)⟩]
theorem Z8e : ZS.ss[1]? = some ⟨[70,105,108,101],Zvk⟩ := rfl
theorem sec_at : Zkh [83,101,99,116,105,111,110] ZS.ss = some ⟨[83,101,99,116,105,111,110],Z0c⟩ := by kernel_rfl
section
variable {F : XF} {crc : Zm3} {inp : List Nat} {f : Nat} {y : XI} {e : Nat} {env : Ev} {al : Al} {p n q k : Nat} {t : XT'} {out : List V} {r : List XI}
theorem Z2h (h1 : Zmt y.nm al = false) (h2 : F.ts[y.ty]? = some t) (h3 : t.k = 2) (h4 : Zk8 F env t.ex = (k,0)) (h5 : p + k ≤ e) (h6 : (sub inp p k).all (· == 0) = true) (h7 : n < 1048576) (h8 : y.wh = .negSucc 0) (h9 : y.der = 0) : Yh F crc inp (Yi F crc inp (f + 1)) e (y :: r) env al out p n = Yh F crc inp (Yi F crc inp (f + 1)) e r env (al ++ [(y.nm,p,p + k,Zit)]) (out ++ [Zit]) (p + k) (n + 1) := by
  have hi : Zg6 F y.ty = false := by rw [Zg6,h2]; simp only [h3]; rfl
  have hk : Yi F crc inp (f + 1) y.ty env p e n = .ok Zit (p + k) (n + 1) := by
    rw [Yi,Zck,h2]
    simp only [h3,Zdb,h4]
    have h10 : ¬ k > e - p := by omega
    have h11 : ¬ n ≥ 1048576 := by omega
    simp [h10,h6,VT,h11]
  rw [Yh,UL,if_neg (by rw [h1]; decide),hk]
  simp only [RO.bind,hi,h8,h9]
  rfl
end
def Zhx (tb m : Nat) : Ev := [([109,97,103,105,99],2135247942),([99,108,97,115,115],2),([111,114,100,101,114],1),([105,100,101,110,116],1),([97,98,105],0),([107,105,110,100],1),([109,97,99,104,105,110,101],62),([118,101,114,115,105,111,110],1),([101,110,116,114,121],0),([112,114,111,103,114,97,109,115],0),([115,101,99,116,105,111,110,115],tb),([102,108,97,103,115],0),([111,119,110],64),([112,114,111,103,114,97,109,115,105,122,101],0),([112,114,111,103,114,97,109,99,111,117,110,116],0),([115,101,99,116,105,111,110,115,105,122,101],64),([99,111,117,110,116],m),([110,97,109,101,115],0)]
def fileA (tb m : Nat) : Al := [([109,97,103,105,99],0,4,UW 2135247942),
  ([99,108,97,115,115],4,5,UW 2),
  ([111,114,100,101,114],5,6,UW 1),
  ([105,100,101,110,116],6,7,UW 1),
  ([97,98,105],7,8,UW 0),
  ([112,97,100],8,16,Zit),
  ([107,105,110,100],16,18,UW 1),
  ([109,97,99,104,105,110,101],18,20,UW 62),
  ([118,101,114,115,105,111,110],20,24,UW 1),
  ([101,110,116,114,121],24,32,UW 0),
  ([112,114,111,103,114,97,109,115],32,40,UW 0),
  ([115,101,99,116,105,111,110,115],40,48,UW tb),
  ([102,108,97,103,115],48,52,UW 0),
  ([111,119,110],52,54,UW 64),
  ([112,114,111,103,114,97,109,115,105,122,101],54,56,UW 0),
  ([112,114,111,103,114,97,109,99,111,117,110,116],56,58,UW 0),
  ([115,101,99,116,105,111,110,115,105,122,101],58,60,UW 64),
  ([99,111,117,110,116],60,62,UW m),
  ([110,97,109,101,115],62,64,UW 0)]
def Zmo (tb m : Nat) : List V := [UW 2135247942,UW 2,UW 1,UW 1,UW 0,Zit,UW 1,UW 62,UW 1,UW 0,UW 0,UW tb,UW 0,UW 64,UW 0,UW 0,UW 64,UW m,UW 0]
theorem Z07 {crc : Zm3} {tb m e f : Nat} {rest : List Nat} (ht : tb < 256 ^ 4) (hm : m < 256 ^ 2) (he : 64 ≤ e) : Yh ZS crc (Zcm tb m ++ rest) (Yi ZS crc (Zcm tb m ++ rest) (f + 1)) e Zvk [] [] [] 0 1 = Yh ZS crc (Zcm tb m ++ rest) (Yi ZS crc (Zcm tb m ++ rest) (f + 1)) e (Zvk.drop 19) (Zhx tb m) (fileA tb m) (Zmo tb m) 64 20 := by
  refine (Y9 (v := 2135247942) (q := 4) (by kernel_rfl) rfl rfl (show 0 + 4 ≤ e by omega) (by kernel_rfl) (by decide) (Or.inr ⟨_,rfl,by kernel_rfl⟩) rfl rfl).trans ?_
  refine (Y9 (v := 2) (q := 5) (by kernel_rfl) rfl rfl (show 4 + 1 ≤ e by omega) (by kernel_rfl) (by decide) (Or.inr ⟨_,rfl,by kernel_rfl⟩) rfl rfl).trans ?_
  refine (Y9 (v := 1) (q := 6) (by kernel_rfl) rfl rfl (show 5 + 1 ≤ e by omega) (by kernel_rfl) (by decide) (Or.inr ⟨_,rfl,by kernel_rfl⟩) rfl rfl).trans ?_
  refine (Y9 (v := 1) (q := 7) (by kernel_rfl) rfl rfl (show 6 + 1 ≤ e by omega) (by kernel_rfl) (by decide) (Or.inr ⟨_,rfl,by kernel_rfl⟩) rfl rfl).trans ?_
  refine (Y9 (v := 0) (q := 8) (by kernel_rfl) rfl rfl (show 7 + 1 ≤ e by omega) (by kernel_rfl) (by decide) (Or.inl rfl) rfl rfl).trans ?_
  refine (Z2h (by kernel_rfl) rfl rfl (k := 8) (by kernel_rfl) (by omega) (by kernel_rfl) (by decide) rfl rfl).trans ?_
  refine (Y9 (v := 1) (q := 18) (by kernel_rfl) rfl rfl (show 16 + 2 ≤ e by omega) (by kernel_rfl) (by decide) (Or.inl rfl) rfl rfl).trans ?_
  refine (Y9 (v := 62) (q := 20) (by kernel_rfl) rfl rfl (show 18 + 2 ≤ e by omega) (by kernel_rfl) (by decide) (Or.inl rfl) rfl rfl).trans ?_
  refine (Y9 (v := 1) (q := 24) (by kernel_rfl) rfl rfl (show 20 + 4 ≤ e by omega) (by kernel_rfl) (by decide) (Or.inr ⟨_,rfl,by kernel_rfl⟩) rfl rfl).trans ?_
  refine (Y9 (v := 0) (q := 32) (by kernel_rfl) rfl rfl (show 24 + 8 ≤ e by omega) (by kernel_rfl) (by decide) (Or.inl rfl) rfl rfl).trans ?_
  refine (Y9 (v := 0) (q := 40) (by kernel_rfl) rfl rfl (show 32 + 8 ≤ e by omega) (by kernel_rfl) (by decide) (Or.inl rfl) rfl rfl).trans ?_
  refine (Y9 (v := tb) (q := 48) (by kernel_rfl) rfl rfl (show 40 + 8 ≤ e by omega) (by rw [show sub (Zcm tb m ++ rest) 40 8 = Zeo 8 tb by kernel_rfl]; exact Zjl ht) (by decide) (Or.inl rfl) rfl rfl).trans ?_
  refine (Y9 (v := 0) (q := 52) (by kernel_rfl) rfl rfl (show 48 + 4 ≤ e by omega) (by kernel_rfl) (by decide) (Or.inl rfl) rfl rfl).trans ?_
  refine (Y9 (v := 64) (q := 54) (by kernel_rfl) rfl rfl (show 52 + 2 ≤ e by omega) (by kernel_rfl) (by decide) (Or.inr ⟨_,rfl,by kernel_rfl⟩) rfl rfl).trans ?_
  refine (Y9 (v := 0) (q := 56) (by kernel_rfl) rfl rfl (show 54 + 2 ≤ e by omega) (by kernel_rfl) (by decide) (Or.inl rfl) rfl rfl).trans ?_
  refine (Y9 (v := 0) (q := 58) (by kernel_rfl) rfl rfl (show 56 + 2 ≤ e by omega) (by kernel_rfl) (by decide) (Or.inl rfl) rfl rfl).trans ?_
  refine (Y9 (v := 64) (q := 60) (by kernel_rfl) rfl rfl (show 58 + 2 ≤ e by omega) (by kernel_rfl) (by decide) (Or.inr ⟨_,rfl,by kernel_rfl⟩) rfl rfl).trans ?_
  refine (Y9 (v := m) (q := 62) (by kernel_rfl) rfl rfl (show 60 + 2 ≤ e by omega) (by rw [show sub (Zcm tb m ++ rest) 60 2 = Zeo 2 m by kernel_rfl]; exact numS_2 hm) (by decide) (Or.inl rfl) rfl rfl).trans ?_
  refine (Y9 (v := 0) (q := 64) (by kernel_rfl) rfl rfl (show 62 + 2 ≤ e by omega) (by kernel_rfl) (by decide) (Or.inl rfl) rfl rfl).trans ?_
  rfl
end
section
variable {h : H} {Q : D → H → Prop} {R : ZM}
theorem Ze6 {inp l : List Nat} {p0 : Nat} (hp : inp.drop p0 = l) (j k : Nat) : sub inp (p0 + j) k = sub l j k := by
  unfold sub
  rw [← hp,List.drop_drop]
theorem Znq {F : XF} {crc : Zm3} {inp : List Nat} {kind : Nat → Ev → Nat → Nat → Nat → RO V} {y : XI} {e : Nat} {env : Ev} {al : Al} {p n q n' : Nat} {v : V} {out : List V} {r : List XI} (h1 : Zmt y.nm al = false) (hk : kind y.ty env p e n = .ok v q n') (hi : Zg6 F y.ty = false) (h8 : y.wh = .negSucc 0) (h9 : y.der = 0) : Yh F crc inp kind e (y :: r) env al out p n = Yh F crc inp kind e r env (al ++ [(y.nm,p,q,v)]) (out ++ [v]) q n' := by
  rw [Yh,UL,if_neg (by rw [h1]; decide),hk]
  simp only [RO.bind,hi,h8,h9]
  rfl
def Zi8 (inp : List Nat) (kd off len : Nat) : V := if kd = 0 ∨ kd = 8 then Zit else mkB (sub inp off len)
def Znt (kd off len : Nat) : Ev := [([110,97,109,101],0),([107,105,110,100],kd),([102,108,97,103,115],0),([97,100,100,114,101,115,115],0),([111,102,102,115,101,116],off),([115,105,122,101],len),([108,105,110,107],0),([105,110,102,111],0),([97,108,105,103,110],1),([101,97,99,104],0)]
def secA (p0 kd off len : Nat) : Al := [([110,97,109,101],p0 + 0,p0 + 4,UW 0),
  ([107,105,110,100],p0 + 4,p0 + 8,UW kd),
  ([102,108,97,103,115],p0 + 8,p0 + 16,UW 0),
  ([97,100,100,114,101,115,115],p0 + 16,p0 + 24,UW 0),
  ([111,102,102,115,101,116],p0 + 24,p0 + 32,UW off),
  ([115,105,122,101],p0 + 32,p0 + 40,UW len),
  ([108,105,110,107],p0 + 40,p0 + 44,UW 0),
  ([105,110,102,111],p0 + 44,p0 + 48,UW 0),
  ([97,108,105,103,110],p0 + 48,p0 + 56,UW 1),
  ([101,97,99,104],p0 + 56,p0 + 64,UW 0)]
def Zt4 (kd off len : Nat) : List V := [UW 0,UW kd,UW 0,UW 0,UW off,UW len,UW 0,UW 0,UW 1,UW 0]
theorem Z1m {crc : Zm3} {inp : List Nat} {kd off len p e n f : Nat} (hoff : off + len ≤ inp.length) (hn : n < 1048576) : Yi ZS crc inp (f + 3) 14 (Znt kd off len) p e n = .ok (Zi8 inp kd off len) p (n + 1) := by
  have hn' : ¬ n ≥ 1048576 := by omega
  have r0 : Zk8 ZS (Znt kd off len) (.ofNat 0) = (kd,0) := by kernel_rfl
  have r1 : Zk8 ZS (Znt kd off len) (.ofNat 1) = (off,0) := by kernel_rfl
  have r2 : Zk8 ZS (Znt kd off len) (.ofNat 2) = (len,0) := by kernel_rfl
  have r1' : Zk8 ZS (Znt kd off len) (1 : Int) = (off,0) := by kernel_rfl
  have r2' : Zk8 ZS (Znt kd off len) (2 : Int) = (len,0) := by kernel_rfl
  have t14 : ZS.ts[14]? = some ⟨9,0,false,[],.ofNat 0,.ofNat 13,[⟨0,10⟩,⟨8,11⟩]⟩ := rfl
  have t10 : ZS.ts[10]? = some ⟨11,0,false,[],.negSucc 0,.negSucc 0,[]⟩ := rfl
  have t11 : ZS.ts[11]? = some ⟨11,0,false,[],.negSucc 0,.negSucc 0,[]⟩ := rfl
  have t13 : ZS.ts[13]? = some ⟨8,0,false,[],.ofNat 1,.ofNat 12,[]⟩ := rfl
  have t12 : ZS.ts[12]? = some ⟨1,0,false,[],.ofNat 2,.negSucc 0,[]⟩ := rfl
  have hz : ∀ (g a : Nat),ZS.ts[a]? = some ⟨11,0,false,[],.negSucc 0,.negSucc 0,[]⟩ → Yi ZS crc inp (g + 1) a (Znt kd off len) p e n = .ok Zit p (n + 1) := fun g a ha => by
    rw [Yi,Zck,ha]
    simp [VT,hn']
  rw [Yi,Zck,t14]
  simp only [Zdb,r0,Zmq,Zi8]
  by_cases h0 : kd = 0
  · subst h0
    simpa using hz (f + 1) 10 t10
  · by_cases h8 : kd = 8
    · subst h8
      simpa using hz (f + 1) 11 t11
    · have e0 : ¬ (0 : Nat) = kd := fun h => h0 h.symm
      have e8 : ¬ (8 : Nat) = kd := fun h => h8 h.symm
      have hb : Yi ZS crc inp (f + 1) 12 (Znt kd off len) off inp.length n = .ok (mkB (sub inp off len)) (off + len) (n + 1) := by
        rw [Yi,Zck,t12]
        have g1 : ¬ len > inp.length - off := by omega
        simp [Zdb,r2,r2',Nat.not_lt.mp g1,VT,hn']
      have ha : Yi ZS crc inp (f + 2) 13 (Znt kd off len) p e n = .ok (mkB (sub inp off len)) p (n + 1) := by
        rw [Yi,Zck,t13]
        have g1 : ¬ off > inp.length := by omega
        simp [Zdb,r1,r1',Nat.not_lt.mp g1,hb,RO.bind]
      simpa [e0,e8,h0,h8] using ha
theorem Zws {crc : Zm3} {inp : List Nat} {kd off len p0 e n f : Nat} {rest : List Nat} (hp : inp.drop p0 = Zgv kd len off ++ rest) (hk : kd < 256 ^ 4) (ho : off < 256 ^ 4) (hl : len < 256 ^ 4) (he : p0 + 64 ≤ e) (hn : n + 11 < 1048576) : Yh ZS crc inp (Yi ZS crc inp (f + 1)) e Z0c [] [] [] (p0 + 0) n = Yh ZS crc inp (Yi ZS crc inp (f + 1)) e (Z0c.drop 10) (Znt kd off len) (secA p0 kd off len) (Zt4 kd off len) (p0 + 64) (n + 10) := by
  refine (Y9 (p := p0 + 0) (v := 0) (q := p0 + 4) (by kernel_rfl) rfl rfl (show p0 + 0 + 4 ≤ e by omega) (by rw [Ze6 hp 0 4,show sub (Zgv kd len off ++ rest) 0 4 = Zeo 4 0 by kernel_rfl]; exact Zsm (by decide)) (by omega) (Or.inl rfl) rfl rfl).trans ?_
  refine (Y9 (p := p0 + 4) (v := kd) (q := p0 + 8) (by kernel_rfl) rfl rfl (show p0 + 4 + 4 ≤ e by omega) (by rw [Ze6 hp 4 4,show sub (Zgv kd len off ++ rest) 4 4 = Zeo 4 kd by kernel_rfl]; exact Zsm hk) (by omega) (Or.inl rfl) rfl rfl).trans ?_
  refine (Y9 (p := p0 + 8) (v := 0) (q := p0 + 16) (by kernel_rfl) rfl rfl (show p0 + 8 + 8 ≤ e by omega) (by rw [Ze6 hp 8 8,show sub (Zgv kd len off ++ rest) 8 8 = Zeo 8 0 by kernel_rfl]; exact Zjl (by decide)) (by omega) (Or.inl rfl) rfl rfl).trans ?_
  refine (Y9 (p := p0 + 16) (v := 0) (q := p0 + 24) (by kernel_rfl) rfl rfl (show p0 + 16 + 8 ≤ e by omega) (by rw [Ze6 hp 16 8,show sub (Zgv kd len off ++ rest) 16 8 = Zeo 8 0 by kernel_rfl]; exact Zjl (by decide)) (by omega) (Or.inl rfl) rfl rfl).trans ?_
  refine (Y9 (p := p0 + 24) (v := off) (q := p0 + 32) (by kernel_rfl) rfl rfl (show p0 + 24 + 8 ≤ e by omega) (by rw [Ze6 hp 24 8,show sub (Zgv kd len off ++ rest) 24 8 = Zeo 8 off by kernel_rfl]; exact Zjl ho) (by omega) (Or.inl rfl) rfl rfl).trans ?_
  refine (Y9 (p := p0 + 32) (v := len) (q := p0 + 40) (by kernel_rfl) rfl rfl (show p0 + 32 + 8 ≤ e by omega) (by rw [Ze6 hp 32 8,show sub (Zgv kd len off ++ rest) 32 8 = Zeo 8 len by kernel_rfl]; exact Zjl hl) (by omega) (Or.inl rfl) rfl rfl).trans ?_
  refine (Y9 (p := p0 + 40) (v := 0) (q := p0 + 44) (by kernel_rfl) rfl rfl (show p0 + 40 + 4 ≤ e by omega) (by rw [Ze6 hp 40 4,show sub (Zgv kd len off ++ rest) 40 4 = Zeo 4 0 by kernel_rfl]; exact Zsm (by decide)) (by omega) (Or.inl rfl) rfl rfl).trans ?_
  refine (Y9 (p := p0 + 44) (v := 0) (q := p0 + 48) (by kernel_rfl) rfl rfl (show p0 + 44 + 4 ≤ e by omega) (by rw [Ze6 hp 44 4,show sub (Zgv kd len off ++ rest) 44 4 = Zeo 4 0 by kernel_rfl]; exact Zsm (by decide)) (by omega) (Or.inl rfl) rfl rfl).trans ?_
  refine (Y9 (p := p0 + 48) (v := 1) (q := p0 + 56) (by kernel_rfl) rfl rfl (show p0 + 48 + 8 ≤ e by omega) (by rw [Ze6 hp 48 8,show sub (Zgv kd len off ++ rest) 48 8 = Zeo 8 1 by kernel_rfl]; exact Zjl (by decide)) (by omega) (Or.inl rfl) rfl rfl).trans ?_
  refine (Y9 (p := p0 + 56) (v := 0) (q := p0 + 64) (by kernel_rfl) rfl rfl (show p0 + 56 + 8 ≤ e by omega) (by rw [Ze6 hp 56 8,show sub (Zgv kd len off ++ rest) 56 8 = Zeo 8 0 by kernel_rfl]; exact Zjl (by decide)) (by omega) (Or.inl rfl) rfl rfl).trans ?_
  rfl
def Zt3 (inp : List Nat) (kd off len : Nat) : V := Zy4 (Zt4 kd off len ++ [Zi8 inp kd off len])
theorem Z22 {crc : Zm3} {inp : List Nat} {kd off len p0 e n f : Nat} {rest : List Nat} {nm : List Nat} (hp : inp.drop p0 = Zgv kd len off ++ rest) (hk : kd < 256 ^ 4) (ho : off < 256 ^ 4) (hl : len < 256 ^ 4) (he : p0 + 64 ≤ e) (hn : n + 12 < 1048576) (hoff : off + len ≤ inp.length) : WT ZS crc inp (Yi ZS crc inp (f + 3)) ⟨nm,Z0c⟩ p0 e n = .ok (Zt3 inp kd off len) (p0 + 64) (n + 12) := by
  have h1 : ¬ n ≥ 1048576 := by omega
  have h2 := Zws (crc := crc) (n := n + 1) (f := f + 2) hp hk ho hl he (by omega)
  have h3 : Yh ZS crc inp (Yi ZS crc inp (f + 3)) e (Z0c.drop 10) (Znt kd off len) (secA p0 kd off len) (Zt4 kd off len) (p0 + 64) (n + 1 + 10) = _ := Znq (by kernel_rfl) (Z1m hoff (by omega)) rfl rfl rfl
  rw [WT,VT,if_neg h1]
  simp only [RO.bind]
  have h4 : Yh ZS crc inp (Yi ZS crc inp (f + 3)) e Z0c [] [] [] p0 (n + 1) = _ := h2.trans h3
  rw [h4]
  rfl
end
section
variable {h : H} {Q : D → H → Prop} {R : ZM}
def Zbn (inp : List Nat) : Nat → List (Nat × List Nat) → List V
  | _,[] => []
  | n,(k,d) :: r => Zt3 inp k (64 + n) d.length :: Zbn inp (n + d.length) r
theorem Zv7 {crc : Zm3} {inp rest : List Nat} {env : Ev} {e f : Nat} (hi : inp.length < 256 ^ 4) : ∀ (r : List (Nat × List Nat)) (off p n : Nat) (out : List V),(∀ s ∈ r,s.1 < 256 ^ 4) → inp.drop p = Zfl off r ++ rest → 64 + off + (YR r).length ≤ inp.length → p + 64 * r.length ≤ e → n + 12 * r.length < 1048576 → Zm2 (fun p n => Yi ZS crc inp (f + 4) 34 env p e n) r.length out p n = .ok (out ++ Zbn inp off r) (p + 64 * r.length) (n + 12 * r.length)
  | [],off,p,n,out,hk,hp,hl,he,hn => by
    simp [Zm2,Zbn]
  | (k,d) :: r,off,p,n,out,hk,hp,hl,he,hn => by
    rw [Zfl,List.append_assoc] at hp
    rw [YR,List.length_append] at hl
    rw [List.length_cons] at he hn
    have t34 : ZS.ts[34]? = some ⟨10,0,false,[83,101,99,116,105,111,110],.negSucc 0,.negSucc 0,[]⟩ := rfl
    have h1 : Yi ZS crc inp (f + 4) 34 env p e n = .ok (Zt3 inp k (64 + off) d.length) (p + 64) (n + 12) := by
      rw [Yi,Zck,t34]
      have hs := Z22 (crc := crc) (inp := inp) (e := e) (n := n) (f := f) (nm := [83,101,99,116,105,111,110]) hp (hk _ (List.mem_cons_self ..)) (by omega) (by omega) (by omega) (by omega) (by omega)
      simpa [sec_at] using hs
    have h2 : inp.drop (p + 64) = Zfl (off + d.length) r ++ rest := by
      rw [← List.drop_drop,hp,List.drop_left' Zko]
    have ih := Zv7 (crc := crc) (env := env) (e := e) (f := f) hi r (off + d.length) (p + 64) (n + 12) (out ++ [Zt3 inp k (64 + off) d.length]) (fun s hs => hk s (List.mem_cons_of_mem _ hs)) h2 (by omega) (by omega) (by omega)
    rw [List.length_cons,Zm2,h1]
    simp only [RO.bind]
    rw [ih,Zbn,List.append_assoc,List.singleton_append]
    congr 1
    · omega
    · omega
theorem Zqu {crc : Zm3} {inp : List Nat} {env : Ev} {e f : Nat} : ∀ (k g p n : Nat) (out : List V),p + k = e → k < g → n + k < 1048576 → Zg4 (fun p n => Yi ZS crc inp (f + 1) 37 env p e n) e g out p n = .ok (out ++ List.replicate k Zit) e (n + k)
  | 0,g + 1,p,n,out,hp,hg,hn => by
    rw [Zg4,if_neg (by omega)]
    simp [← hp]
  | k + 1,g + 1,p,n,out,hp,hg,hn => by
    have t37 : ZS.ts[37]? = some ⟨3,0,false,[],.ofNat 27,.negSucc 0,[]⟩ := rfl
    have r27 : Zk8 ZS env (.ofNat 27) = (1,0) := by kernel_rfl
    have r27' : Zk8 ZS env (27 : Int) = (1,0) := by kernel_rfl
    have g1 : 1 ≤ e - p := by omega
    have g2 : ¬ n ≥ 1048576 := by omega
    have h1 : Yi ZS crc inp (f + 1) 37 env p e n = .ok Zit (p + 1) (n + 1) := by
      rw [Yi,Zck,t37]
      simp [Zdb,r27,r27',Nat.not_lt.mpr g1,VT,g2]
    rw [Zg4,if_pos (by omega),h1]
    simp only [RO.bind]
    rw [if_neg (by omega),Zqu k g (p + 1) (n + 1) (out ++ [Zit]) (by omega) (by omega) (by omega),List.append_assoc,List.replicate_succ,List.singleton_append]
    congr 1
    omega
end
section
variable {h : H} {Q : D → H → Prop} {R : ZM}
section
variable {crc : Zm3} {sx : List (Nat × List Nat)}
theorem Ztt : ∀ (r : List (Nat × List Nat)) (n : Nat),(Zfl n r).length = 64 * r.length
  | [],n => rfl
  | (k,d) :: r,n => by rw [Zfl,List.length_append,Zko,Ztt r,List.length_cons]; omega
theorem Zfz : ∀ {r : List (Nat × List Nat)},(∀ s ∈ r,s.2.length ≤ 300) → (YR r).length ≤ 300 * r.length
  | [],_ => Nat.le_refl _
  | (k,d) :: r,h => by
    have := h _ (List.mem_cons_self ..)
    have := Zfz (r := r) fun s hs => h s (List.mem_cons_of_mem _ hs)
    rw [YR,List.length_append,List.length_cons]
    simp only at *
    omega
theorem Zeh : (YM sx).length = 64 + (YR sx).length + 64 * sx.length := by
  rw [YM,List.length_append,List.length_append,Zdy,Ztt]
theorem Zwl {inp : List Nat} {tb m n f : Nat} {l : List V} (hm : m ≤ 65536) (ht : tb ≤ inp.length) (hn : n < 1048576) (ha : Zm2 (fun p n => Yi ZS crc inp (f + 4) 34 (Zhx tb m) p inp.length n) m [] tb (n + 1) = .ok l (tb + 64 * m) (n + 1 + 12 * m)) : Yi ZS crc inp (f + 6) 36 (Zhx tb m) 64 inp.length n = .ok (Zpt l) 64 (n + 1 + 12 * m) := by
  have t36 : ZS.ts[36]? = some ⟨8,0,false,[],.ofNat 25,.ofNat 35,[]⟩ := rfl
  have t35 : ZS.ts[35]? = some ⟨5,0,false,[],.ofNat 26,.ofNat 34,[]⟩ := rfl
  have r25 : Zk8 ZS (Zhx tb m) (.ofNat 25) = (tb,0) := by kernel_rfl
  have r26 : Zk8 ZS (Zhx tb m) (.ofNat 26) = (m,0) := by kernel_rfl
  have r25' : Zk8 ZS (Zhx tb m) (25 : Int) = (tb,0) := by kernel_rfl
  have r26' : Zk8 ZS (Zhx tb m) (26 : Int) = (m,0) := by kernel_rfl
  have g2 : ¬ n ≥ 1048576 := by omega
  have h35 : Yi ZS crc inp (f + 5) 35 (Zhx tb m) tb inp.length n = .ok (Zpt l) (tb + 64 * m) (n + 1 + 12 * m) := by
    rw [Yi,Zck,t35]
    simp [Zdb,r26,r26',hm,VT,g2,RO.bind,ha]
  rw [Yi,Zck,t36]
  simp [Zdb,r25,r25',ht,h35,RO.bind]
theorem Zur {inp : List Nat} {env : Ev} {n f : Nat} (hl : 64 ≤ inp.length) (hn : n + 1 + inp.length < 1048576) (hf : inp.length < f) : Yi ZS crc inp (f + 1 + 1) 38 env 64 inp.length n = .ok (Zpt (List.replicate (inp.length - 64) Zit)) inp.length (n + 1 + (inp.length - 64)) := by
  have t38 : ZS.ts[38]? = some ⟨6,0,false,[],.negSucc 0,.ofNat 37,[]⟩ := rfl
  have g2 : ¬ n ≥ 1048576 := by omega
  have hr := Zqu (crc := crc) (inp := inp) (env := env) (e := inp.length) (f := f) (inp.length - 64) (f + 1) 64 (n + 1) [] (by omega) (by omega) (by omega)
  rw [Yi,Zck,t38]
  simp [VT,g2,RO.bind,hr]
def Zjv (sx : List (Nat × List Nat)) (ext : List Nat) : V := Zy4 (Zmo (64 + (YR sx).length) sx.length ++ [Zpt (Zbn (YM sx ++ ext) 0 sx)] ++ [Zpt (List.replicate ((YM sx ++ ext).length - 64) Zit)])
theorem Zvq {ext : List Nat} (hs : SOk sx) (hx : ext.length ≤ 1) : ∃ n,Zj5 ZS crc (YM sx ++ ext) ((YM sx ++ ext).length + 11) 1 = .ok (Zjv sx ext) (YM sx ++ ext).length n := by
  have hn := hs.n
  have hd := Zfz hs.d
  have hlen : (YM sx ++ ext).length = 64 + (YR sx).length + 64 * sx.length + ext.length := by rw [List.length_append,Zeh]
  generalize hi : YM sx ++ ext = inp at *
  have hh : inp = Zcm (64 + (YR sx).length) sx.length ++ (YR sx ++ (Zfl 0 sx ++ ext)) := by rw [← hi,YM,List.append_assoc,List.append_assoc]
  have hdr : inp.drop (64 + (YR sx).length) = Zfl 0 sx ++ ext := by
    rw [hh,← List.drop_drop,List.drop_left' Zdy,List.drop_left' rfl]
  have e4 : (256 : Nat) ^ 4 = 4294967296 := by decide
  have e2 : (256 : Nat) ^ 2 = 65536 := by decide
  have h1 := Z07 (crc := crc) (tb := 64 + (YR sx).length) (m := sx.length) (e := inp.length) (f := inp.length + 10) (rest := YR sx ++ (Zfl 0 sx ++ ext)) (by omega) (by omega) (by omega)
  rw [← hh] at h1
  have ha := Zv7 (crc := crc) (inp := inp) (env := Zhx (64 + (YR sx).length) sx.length) (e := inp.length) (f := inp.length + 5 + 0) (by omega) sx 0 (64 + (YR sx).length) 21 [] (fun s h => by have := hs.k s h; omega) hdr (by omega) (by omega) (by omega)
  have h2 := Zwl (crc := crc) (n := 20) (f := inp.length + 5) (by omega) (by omega) (by omega) ha
  have h3 := Zur (crc := crc) (inp := inp) (env := Zhx (64 + (YR sx).length) sx.length) (n := 21 + 12 * sx.length) (f := inp.length + 9) (by omega) (by omega) (by omega)
  have h4 : Yh ZS crc inp (Yi ZS crc inp (inp.length + 11)) inp.length (Zvk.drop 19) (Zhx (64 + (YR sx).length) sx.length) (fileA (64 + (YR sx).length) sx.length) (Zmo (64 + (YR sx).length) sx.length) 64 20 = _ := Znq (by kernel_rfl) h2 rfl rfl rfl
  have h5 := h4.trans (Znq (by kernel_rfl) h3 rfl rfl rfl)
  have h6 := h1.trans h5
  refine ⟨21 + 12 * sx.length + 1 + (inp.length - 64), ?_⟩
  rw [Zj5,Z8e]
  simp only [WT,VT]
  rw [if_neg (by decide)]
  simp only [RO.bind]
  rw [h6]
  simp only [Yh]
  rw [show Zbm _ Zvk = none from by kernel_rfl]
  simp only [if_true,Zjv,hi,List.nil_append]
end
end
section
variable {h : H} {Q : D → H → Prop} {R : ZM}
theorem Zqj {inp : List Nat} : ∀ (r : List (Nat × List Nat)) (n : Nat),(Zbn inp n r).length = r.length
  | [],n => rfl
  | (k,d) :: r,n => by rw [Zbn,List.length_cons,Zqj r,List.length_cons]
end
end Run
end
end Go.Abs
