/- The functions of the law, made quick, and the table: printed by a program. -/
import Derived.Test.YtbknmljjoahajaaGreatDoorElf0
import Derived.Test.YtbknmljjoahajaaGreatDoorTg
set_option linter.unusedVariables false
namespace Go.Abs
namespace Run
open Go.Proofs
def q46 : FFn := ffn ss (fun t h => .ok (t4 t) h)
 (fseq (freg <| fo (fbox 47 t0) s2 <| fo (fmv (kD (.str []))) s4 <| fend)
 (fseq (fdreg <| fdl 0 [] (fcalls 85 [(kD (.int .u64 (.ofNat 0))), (kD (.int .i64 (.ofNat 4)))]) s6 <| fdo (u1 (r_fa 0) t2) s7 <| fdr 2 [0] 1 t7 (fld1 t7) s8 <| fdo (fcint .u64 t8) s9 <| fdl 4 [] (fcalls 85 [t9, (kD (.int .i64 (.ofNat 4)))]) s10 <| fdo (qint dadd .add 9 (.tmp 6) (.tmp 10) t6 t10) s11 <| fdl 6 [5] (fcalls 85 [(kD (.int .u64 (.ofNat 0))), (kD (.int .i64 (.ofNat 8)))]) s12 <| fdo (qint dadd .add 9 (.tmp 11) (.tmp 12) t11 t12) s13 <| fdl 8 [5, 7] (fcalls 85 [(kD (.int .u64 (.ofNat 0))), (kD (.int .i64 (.ofNat 8)))]) s14 <| fdo (qint dadd .add 9 (.tmp 13) (.tmp 14) t13 t14) s15 <| fdo (fmv t15) s5 <| fdend)
 (fseq (fdreg <| fdo (fmv t5) s16 <| fdo (fmv t1) s17 <| fdo (fcint .u64 t17) s18 <| fdl 3 [0] (fcalls 85 [t18, (kD (.int .i64 (.ofNat 8)))]) s19 <| fdo (u1 (r_fa 1) t2) s20 <| fdr 5 [0, 1, 2, 3] 1 t20 (fld1 t20) s21 <| fdo (u1 r_lens t21) s22 <| fdo (fcint .u64 t22) s23 <| fdl 8 [0] (fcalls 85 [t23, (kD (.int .i64 (.ofNat 8)))]) s24 <| fdo (qint dadd .add 9 (.tmp 19) (.tmp 24) t19 t24) s25 <| fdo (qint dadd .add 9 (.tmp 16) (.tmp 25) t16 t25) s26 <| fdo (fmv t26) s5 <| fdend)
 (fseq (freg <| fo (fmv t5) s27 <| fo (fcalls 85 [(kD (.int .u64 (.ofNat 0))), (kD (.int .i64 (.ofNat 4)))]) s28 <| fo (qint dadd .add 9 (.tmp 27) (.tmp 28) t27 t28) s29 <| fo (fcalls 85 [(kD (.int .u64 (.ofNat 0))), (kD (.int .i64 (.ofNat 4)))]) s30 <| fo (qint dadd .add 9 (.tmp 29) (.tmp 30) t29 t30) s31 <| fo (fcalls 85 [(kD (.int .u64 (.ofNat 1))), (kD (.int .i64 (.ofNat 8)))]) s32 <| fo (qint dadd .add 9 (.tmp 31) (.tmp 32) t31 t32) s33 <| fo (fcalls 85 [(kD (.int .u64 (.ofNat 0))), (kD (.int .i64 (.ofNat 8)))]) s34 <| fo (qint dadd .add 9 (.tmp 33) (.tmp 34) t33 t34) s35 <| fo (fmv t35) s4 <| fend)
 fret))))
theorem l46 : LeafA Tryz.prog glob 46 q46 := leafA_fast (m := 12) (by kernel_rfl)
def tsel (k : Nat) (q : FFn) (T : Nat → FFn) : Nat → FFn := fun f => bif Nat.beq f k then q else T f
theorem tsel_ok {P : Program} {glob : Nat → Option (List D)} {k : Nat} {q : FFn} {T : Nat → FFn} (hq : LeafA P glob k q) (hT : TabA P glob T) : TabA P glob (tsel k q T) := fun f => by
  unfold tsel
  cases hb : Nat.beq f k with
  | true => have := Nat.eq_of_beq_eq_true hb; subst this; exact hq
  | false => exact hT f
noncomputable def TB : Nat → FFn := tsel 46 q46 TA
theorem TB_ok : TabA Tryz.prog glob TB := tsel_ok l46 TA_ok
/-- The one, or the other. -/
def libOr (a b : List D → H → O D) : List D → H → O D := fun ds h =>
  match a ds h with
  | .fail _ => b ds h
  | o => o
theorem libOr_sim {P : Program} {f : Nat} {a b : List D → H → O D} {glob : Nat → Option (List D)} (ha : LibSim P f a glob) (hb : LibSim P f b glob) : LibSim P f (libOr a b) glob := by
  intro ds h p d h' hr
  unfold libOr at hr
  cases e : a ds h with
  | ok x y => rw [e] at hr; cases p <;> cases hr; exact ha ds h false _ _ e
  | panic x y => rw [e] at hr; cases p <;> cases hr; exact ha ds h true _ _ e
  | fail w => rw [e] at hr; exact hb ds h p d h' hr
theorem libOr_grow {a b : List D → H → O D} (ha : ∀ ds h, Ogrow h (a ds h)) (hb : ∀ ds h, Ogrow h (b ds h)) : ∀ ds h, Ogrow h (libOr a b ds h) := fun ds h => by
  unfold libOr
  have h1 := ha ds h
  cases e : a ds h with
  | ok x y => rw [e] at h1; exact h1
  | panic x y => rw [e] at h1; exact h1
  | fail w => exact hb ds h
def yes : D := .v (.bool true)
def i64 (n : Nat) : D := .int .i64 (.ofNat n)
def u64 (n : Nat) : D := .int .u64 (.ofNat n)
def good3 : List D → H → O D := libOr (libRun [i64 2] yes) (libOr (libRun [i64 4] yes) (libRun [i64 8] yes))
def mask3 : List D → H → O D := libOr (libRun [i64 16] (u64 65535)) (libOr (libRun [i64 32] (u64 4294967295)) (libRun [i64 64] (u64 18446744073709551615)))
noncomputable def elf_libs4 (f : Nat) : Option (List D → H → O D) :=
  bif Nat.beq f 14 then some (libRun [] yes) else bif Nat.beq f 16 then some (libRun [] elf_text) else bif Nat.beq f 118 then some good3 else bif Nat.beq f 161 then some good3 else bif Nat.beq f 156 then some mask3 else libs0 f
noncomputable def elf_env4 : Env := envOf Tryz.prog glob elf_libs4
noncomputable def elf_tab4 : Nat → FFn := tover elf_libs4 TB
noncomputable def tab0b : Nat → FFn := tover libs0 TB
theorem tab4_ok : Tab elf_env4 elf_tab4 := tab_over TB_ok elf_libs4
theorem tab0b_ok : Tab env0 tab0b := tab_over TB_ok libs0
theorem good118_2 : isTree (fcall env0 tab0b 1000 118 [i64 2] hTop) Tryz.prog 4 yes = true := by kernel_rfl
theorem good161_2 : isTree (fcall env0 tab0b 1000 161 [i64 2] hTop) Tryz.prog 4 yes = true := by kernel_rfl
theorem good118_4 : isTree (fcall env0 tab0b 1000 118 [i64 4] hTop) Tryz.prog 4 yes = true := by kernel_rfl
theorem good161_4 : isTree (fcall env0 tab0b 1000 161 [i64 4] hTop) Tryz.prog 4 yes = true := by kernel_rfl
theorem good118_8 : isTree (fcall env0 tab0b 1000 118 [i64 8] hTop) Tryz.prog 4 yes = true := by kernel_rfl
theorem good161_8 : isTree (fcall env0 tab0b 1000 161 [i64 8] hTop) Tryz.prog 4 yes = true := by kernel_rfl
theorem mask16 : isTree (fcall env0 tab0b 1000 156 [i64 16] hTop) Tryz.prog 4 (u64 65535) = true := by kernel_rfl
theorem mask32 : isTree (fcall env0 tab0b 1000 156 [i64 32] hTop) Tryz.prog 4 (u64 4294967295) = true := by kernel_rfl
theorem mask64 : isTree (fcall env0 tab0b 1000 156 [i64 64] hTop) Tryz.prog 4 (u64 18446744073709551615) = true := by kernel_rfl
theorem ref_text_run : isTree (fcall env0 tab0b 10000 16 [] hTop) Tryz.prog 4 elf_text = true := by kernel_rfl
theorem tt3 : elf_tab4 3 = q3 := rfl
theorem tt13 : elf_tab4 13 = q13 := rfl
theorem tt15 : elf_tab4 15 = q15 := rfl
theorem tt17 : elf_tab4 17 = q17 := rfl
theorem tt18 : elf_tab4 18 = q18 := rfl
theorem tt45 : elf_tab4 45 = q45 := rfl
theorem tt46 : elf_tab4 46 = q46 := rfl
theorem tt47 : elf_tab4 47 = q47 := rfl
theorem tt48 : elf_tab4 48 = q48 := rfl
theorem tt50 : elf_tab4 50 = q50 := rfl
theorem tt85 : elf_tab4 85 = q85 := rfl
theorem tt86 : elf_tab4 86 = q86 := rfl
theorem tt88 : elf_tab4 88 = q88 := rfl
theorem tt119 : elf_tab4 119 = q119 := rfl
theorem tt120 : elf_tab4 120 = q120 := rfl
theorem tt124 : elf_tab4 124 = q124 := rfl
theorem tt14 : elf_tab4 14 = flib (libRun [] yes) := rfl
theorem tt16 : elf_tab4 16 = flib (libRun [] elf_text) := rfl
theorem tt49 : elf_tab4 49 = flib (libString0 5) := rfl
theorem tt84 : elf_tab4 84 = flib (libCheck 96) := rfl
theorem tt87 : elf_tab4 87 = flib libRepeat := rfl
theorem tt118 : elf_tab4 118 = flib good3 := rfl
theorem tt161 : elf_tab4 161 = flib good3 := rfl
theorem tt156 : elf_tab4 156 = flib mask3 := rfl
end Run
end Go.Abs
