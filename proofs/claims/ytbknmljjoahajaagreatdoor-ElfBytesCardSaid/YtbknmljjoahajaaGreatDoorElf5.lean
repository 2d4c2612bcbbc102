/- Numbers as bytes: what the program's and the document's Put come to. -/
import Derived.Test.YtbknmljjoahajaaGreatDoorElf4
set_option linter.unusedVariables false
set_option linter.unusedSimpArgs false
namespace Go.Abs
namespace Run
open Go.Proofs
variable {E : Env}
attribute [local go_sem] wr_mv wr_len wr_fa wr_nil wr_ext wr_not wr_ixs wr_sl wr_ld1 wr_ldN wr_st wr_alloc wr_box wr_mkmap wr_int wr_pick wr_build wr_buildSl wr_look wr_mk wr_app wr_sbin wr_fog wr_end wd_mv wd_fa wd_nil wd_ext wd_ixs wd_alloc wd_build wd_buildSl wd_ld1 wd_ldN wd_st wd_mset wd_app wd_int wd_end sO_ok sD_ok sR_ok sL_ok sB_t sB_f sG_t sG_f kseq_n kseq_r kseq_e kblk_n kblk_r kblk_e kfn_n kfn_r sC_ok kc_eq kd_eq oFa_ptr oFa_ep oNil_ptr oNil_ep oLen_sl oLen_row oLen_nil oExt_0 oExt_1 oExt_2 okq_some oNot_bool oSl_nil rc_ptr rc_ep oRd oEp oLd1_some oLdN_some oSt oInt_int oPick_b oBuild_some oBuildSl_some ffill_nil oFill_some ffill patch oFind_some oFind_none oOne_some oTwo_some cfin_one cfin_two wanted_b wanted_u evs_nil evs_cons fargs_nil fargs_cons cells_int cells_str cells_agg cells_sl cells_row cells_map cells_ptr cells_bool cells_nil one_nil one_cons one_int one_str one_sl one_row one_map one_ptr one_bool one_vnil deql dneq dlss dgtr dgeq iEq_n iLt_n iLe beq_dec blt_dec ble_dec mem_nil readOk_nil readOk_rd loudOk_nil loudOk_loud loudOk_none List.drop_succ_cons List.drop_zero List.drop_nil List.take_succ_cons List.take_zero List.take_nil List.length_cons List.length_nil List.cons_append List.nil_append Nat.reduceAdd Nat.reduceEqDiff Nat.reduceLeDiff decide_true decide_false Bool.and_self Bool.and_true Bool.true_and Bool.not_true Bool.not_false cond_true cond_false true_and and_true Gt_St p0_eq kD_eq reduceIte Nat.add_zero Nat.zero_add next_new next_put hget_new_le hget_new_ne hget_put_same hget_put_ne wr_b2s wr_lens wr_slstr oLens_str oB2s_nil kloopu_n kloopu_e kloopu_r oApp_unf oApp_unil oSame_some readOk_loudS loudOk_rdS mem_cons loudT readT sames_one Option.map_some Option.map_none
attribute [local go_sem] tg0 sg0 tg1 sg1 tg2 sg2 tg3 sg3 tg4 sg4 tg5 sg5 tg6 sg6 tg7 sg7 tg8 sg8 tg9 sg9 tg10 sg10 tg11 sg11 tg12 sg12 tg13 sg13 tg14 sg14 tg15 sg15 tg16 sg16 tg17 sg17 tg18 sg18 tg19 sg19 tg20 sg20 tg21 sg21 tg22 sg22 tg23 sg23 tg24 sg24 tg25 sg25 tg26 sg26 tg27 sg27 tg28 sg28 tg29 sg29 tg30 sg30 tg31 sg31 tg32 sg32 tg33 sg33 tg34 sg34 tg35 sg35 tg36 sg36 tg37 sg37 tg38 sg38 tg39 sg39 tg40 sg40 tg41 sg41 tg42 sg42 tg43 sg43 tg44 sg44 tg45 sg45 tg46 sg46 tg47 sg47 tg48 sg48 tg49 sg49 tg50 sg50 tg51 sg51 tg52 sg52 tg53 sg53 tg54 sg54 tg55 sg55 tg56 sg56 tg57 sg57 tg58 sg58 tg59 sg59 tg60 sg60 tg61 sg61 tg62 sg62 tg63 sg63 tg64 sg64 tg65 sg65 tg66 sg66 tg67 sg67 tg68 sg68 tg69 sg69 tg70 sg70 tg71 sg71 tg72 sg72 tg73 sg73 tg74 sg74 tg75 sg75 tg76 sg76 tg77 sg77 tg78 sg78 tg79 sg79 tg80 sg80 tg81 sg81 tg82 sg82 tg83 sg83 tg84 sg84 tg85 sg85 tg86 sg86 tg87 sg87 tg88 sg88 tg89 sg89 tg90 sg90 tg91 sg91 tg92 sg92 tg93 sg93 tg94 sg94 tg95 sg95 tg96 sg96
theorem shr_bin {E : Env} {t : TypeId} {o1 o2 : Operand} (a b : Nat) (hb : b ≤ 64) : binD E .shr t o1 o2 (.int .u64 (.ofNat a)) (.int .i64 (.ofNat b)) = some (.int .u64 (.ofNat (a / 2 ^ b))) := by
  simp only [binD, quickBin, D.plain, D.plain0, D.plain1]
  have h0 : ¬ ((b : Int) < 0) := by omega
  have hm : min b IntKind.u64.bits = b := Nat.min_eq_left hb
  have hf : ((a : Int)).fdiv (2 ^ b) = ((a / 2 ^ b : Nat) : Int) := by
    rw [Int.fdiv_eq_ediv_of_nonneg _ (by exact Int.pow_nonneg (by decide))]
    simp
  simp [eqGuard, binOp, Op.shift, h0, hm]
  show some (D.of (.int .u64 (((a : Int)).fdiv (2 ^ b)))) = _
  rw [hf]
  simp [D.of, D.of0]
theorem rem_u {E : Env} {t : TypeId} {o1 o2 : Operand} (a : Nat) : binD E .rem t o1 o2 (.int .u64 (.ofNat a)) (.int .u64 (.ofNat 256)) = some (.int .u64 (.ofNat (a % 256))) := by
  simp only [binD, quickBin, D.plain, D.plain0, D.plain1]
  have e : ((a : Nat) : Int).tmod 256 = ((a % 256 : Nat) : Int) := by
    rw [Int.tmod_eq_emod_of_nonneg (by omega)]
    omega
  simp [eqGuard, binOp, Op.intDiv]
  show some (D.of (.int .u64 (((a : Nat) : Int).tmod 256))) = _
  rw [e]
  rfl
theorem quo_u {E : Env} {t : TypeId} {o1 o2 : Operand} (a : Nat) (ha : a ≤ 18446744073709551615) : binD E .quo t o1 o2 (.int .u64 (.ofNat a)) (.int .u64 (.ofNat 256)) = some (.int .u64 (.ofNat (a / 256))) := by
  simp only [binD, quickBin, D.plain, D.plain0, D.plain1]
  have e : IntKind.u64.wrap (((a : Nat) : Int) / 256) = ((a / 256 : Nat) : Int) := by
    show ((a : Nat) : Int) / 256 % 18446744073709551616 = _
    omega
  simp [eqGuard, binOp, Op.intDiv]
  show some (D.of (.int .u64 (IntKind.u64.wrap (((a : Nat) : Int) / 256)))) = _
  rw [e]
  rfl
section
variable {T : Nat → FFn} {t : Tr D} {h : H} {Q : Aft} {p : D → Tr D → Tr D} {k : FR} {g : Tr D → D}
def oCint (kk : IntKind) (d : D) (h : H) : O D :=
  match d with
  | .int _ n => .ok (.int kk (wrapQ kk n)) h
  | _ => .fail "cint"
theorem wr_cint {kk : IntKind} : WR E T (fo (fcint kk g) p k) t h Q ↔ sO E T (oCint kk (g t) h) p k t Q := wr_fo fun _ => rfl
theorem oCint_n {kk ki : IntKind} {n : Int} : oCint kk (.int ki n) h = .ok (.int kk (wrapQ kk n)) h := rfl
end
theorem wrap_u8 (n : Nat) : wrapQ .u8 (.ofNat n) = .ofNat (n % 256) := by
  rw [wrapQ_eq]
  simp only [wrapF, isOk, Bool.cond_eq_ite]
  split
  · rename_i h
    simp only [Bool.and_eq_true, decide_eq_true_eq] at h
    have : n % 256 = n := Nat.mod_eq_of_lt (by have := h.2; simp only [Int.ofNat_eq_natCast] at this; omega)
    rw [this]
  · show ((n : Int)) % 256 = _
    simp
theorem wrap_u64 {n : Nat} (hn : n ≤ 18446744073709551615) : wrapQ .u64 (.ofNat n) = .ofNat n := by
  have : Nat.ble n (kMax .u64) = true := ble_of hn
  show (bif Nat.ble n (kMax .u64) then Int.ofNat n else _) = _
  rw [this]; rfl
theorem sub_small {m n : Nat} (h1 : n ≤ m) (h2 : m ≤ 9223372036854775807) : dsub .i64 (.ofNat m) (.ofNat n) = .int .i64 (.ofNat (m - n)) := by
  have e : iSub (.ofNat m) (.ofNat n) = .ofNat (m - n) := by rw [iSub_eq]; simp only [Int.ofNat_eq_natCast]; omega
  rw [dsub, e, wrap_ok (by omega)]
theorem mul_small {m n : Nat} (h : m * n ≤ 9223372036854775807) : dmul .i64 (.ofNat m) (.ofNat n) = .int .i64 (.ofNat (m * n)) := by
  have e : iMul (.ofNat m) (.ofNat n) = .ofNat (m * n) := by rw [iMul_eq]; simp
  rw [dmul, e, wrap_ok h]
theorem leq_n {kk : IntKind} {m n : Nat} (h : m ≤ n) : dleq kk (.ofNat m) (.ofNat n) = .v (.bool true) := by
  rw [dleq, iLe_eq, decide_eq_true (by simpa using h)]
/-- The bytes of a number, the lowest first. -/
def le : Nat → Nat → List Nat
  | 0, _ => []
  | k + 1, n => n % 256 :: le k (n / 256)
theorem good_ev (k : Nat) (hk : k = 2 ∨ k = 4 ∨ k = 8) (h : H) : WC E elf_tab4 118 [.int .i64 (.ofNat k)] h fun d h' => d = yes ∧ h' = h := by
  refine wc_lib tt118 ?_
  rcases hk with rfl | rfl | rfl <;> exact ⟨rfl, rfl⟩
theorem rgood_ev (k : Nat) (hk : k = 2 ∨ k = 4 ∨ k = 8) (h : H) : WC E elf_tab4 161 [.int .i64 (.ofNat k)] h fun d h' => d = yes ∧ h' = h := by
  refine wc_lib tt161 ?_
  rcases hk with rfl | rfl | rfl <;> exact ⟨rfl, rfl⟩
theorem mask_ev (k m : Nat) (hk : (k = 16 ∧ m = 65535) ∨ (k = 32 ∧ m = 4294967295) ∨ (k = 64 ∧ m = 18446744073709551615)) (h : H) : WC E elf_tab4 156 [.int .i64 (.ofNat k)] h fun d h' => d = .int .u64 (.ofNat m) ∧ h' = h := by
  refine wc_lib tt156 ?_
  rcases hk with ⟨rfl, rfl⟩ | ⟨rfl, rfl⟩ | ⟨rfl, rfl⟩ <;> exact ⟨rfl, rfl⟩
theorem fits_ev (n k m : Nat) (hk : (k = 16 ∧ m = 65535) ∨ (k = 32 ∧ m = 4294967295) ∨ (k = 64 ∧ m = 18446744073709551615)) (hn : n ≤ m) (h : H) : WC E elf_tab4 119 [.int .u64 (.ofNat n), .int .i64 (.ofNat k)] h fun d h' => d = yes ∧ h' = h := by
  refine wc_fn (ss := ss) (T := elf_tab4) tt119 ?_
  simp only [go_sem, ss]
  repeat' (first | refine wp_skip ?_ | refine wp_exit ?_ | refine wp_ret ?_ | refine wp_seq ?_ | refine wp_cond ?_ | refine wp_block ?_ | refine wp_dreg ?_ | refine wp_reg ?_ | simp (maxSteps := 2000000) (disch := first | omega | (simp only [next_new, next_put]; omega) | fail) only [go_sem])
  refine wr_call ?_
  simp only [evs_nil, evs_cons, Gt_St, reduceIte]
  refine (mask_ev k m hk h).mono ?_
  rintro d h' ⟨rfl, rfl⟩
  repeat' (first | refine wp_skip ?_ | refine wp_exit ?_ | refine wp_ret ?_ | refine wp_seq ?_ | refine wp_cond ?_ | refine wp_block ?_ | refine wp_dreg ?_ | refine wp_reg ?_ | simp (maxSteps := 2000000) (disch := first | omega | (simp only [next_new, next_put]; omega) | fail) only [go_sem])
  exact leq_n hn
theorem bytes_cons {n : Nat} {r : List D} {l : List Nat} (hr : bytesOf r = some l) : bytesOf (.int .u8 (.ofNat (n % 256)) :: r) = some (n % 256 :: l) := by
  have : Nat.blt (n % 256) 256 = true := by rw [Nat.blt_eq]; exact Nat.mod_lt _ (by decide)
  simp only [bytesOf, hr, this, cond_true]
theorem same_u8 (n : Int) : sames [.int .u8 n] [.int .u8 n] = true := by simp only [sames, D.same, decide_true, Bool.and_self]
set_option maxRecDepth 100000 in
set_option maxHeartbeats 64000000 in
theorem rev2_ev (l : Nat) (a0 a1 : D) (o : a0.one = true ∧ a0.cells = [a0] ∧ sames [a0] [a0] = true ∧ a1.one = true ∧ a1.cells = [a1] ∧ sames [a1] [a1] = true) (h : H) (hm : hget h.mem l = some (.cells 5 [a0, a1])) (hl : l < h.next) : WC E elf_tab4 120 [.row l 0 2 2] h fun d h' => d = .tup [] ∧ hget h'.mem l = some (.cells 5 [a1, a0]) ∧ h'.next = h.next ∧ ∀ j, j ≠ l → hget h'.mem j = hget h.mem j := by
  obtain ⟨oa0, ca0, sa0, oa1, ca1, sa1⟩ := o
  refine wc_fn (ss := ss) (T := elf_tab4) tt120 ?_
  simp only [go_sem, ss]
  repeat' (first | refine wp_skip ?_ | refine wp_exit ?_ | refine wp_ret ?_ | refine wp_seq ?_ | refine wp_cond ?_ | refine wp_block ?_ | refine wp_dreg ?_ | refine wp_reg ?_ | refine wp_loopU ?_ | simp (maxSteps := 2000000) (disch := first | omega | (simp only [next_new, next_put]; omega) | fail) only [go_sem, add_small, shr_bin, rem_u, quo_u, wr_cint, oCint_n, wrap_u8, wrap_u64, sub_small, mul_small, leq_n, oIxs_row, Nat.reduceSub, Nat.reduceMul, Nat.reduceLT, Nat.reduceDiv, Nat.reducePow, oMk_row, repeatL, List.replicate, oB2s_row, bytesOf, Bool.false_or, Bool.or_false, Bool.or_self, Bool.or_true, Bool.true_or, hm, oa0, ca0, sa0, oa1, ca1, sa1])
  intro j hj
  simp (disch := first | exact hj | fail) only [hget_put_ne]
set_option maxRecDepth 100000 in
set_option maxHeartbeats 64000000 in
theorem put2_ev (n : Nat) (hn : n ≤ 65535) (h : H) : WC E elf_tab4 86 [.int .u64 (.ofNat n), .int .i64 (.ofNat 2), .v (.bool true)] h fun d h' => d = .tup [.str (le 2 n), .int .i64 (.ofNat 0)] ∧ Gr h h' := by
  refine wc_fn (ss := ss) (T := elf_tab4) tt86 ?_
  simp only [go_sem, ss]
  repeat' (first | refine wp_skip ?_ | refine wp_exit ?_ | refine wp_ret ?_ | refine wp_seq ?_ | refine wp_cond ?_ | refine wp_block ?_ | refine wp_dreg ?_ | refine wp_reg ?_ | simp (maxSteps := 2000000) (disch := first | omega | (simp only [next_new, next_put]; omega) | fail) only [go_sem])
  refine wr_call ?_
  simp only [evs_nil, evs_cons, Gt_St, reduceIte]
  refine (good_ev 2 (by decide) h).mono ?_
  rintro d h' ⟨rfl, rfl⟩
  simp only [yes]
  repeat' (first | refine wp_skip ?_ | refine wp_exit ?_ | refine wp_ret ?_ | refine wp_seq ?_ | refine wp_cond ?_ | refine wp_block ?_ | refine wp_dreg ?_ | refine wp_reg ?_ | simp (maxSteps := 2000000) (disch := first | omega | (simp only [next_new, next_put]; omega) | fail) only [go_sem, add_small, shr_bin, rem_u, quo_u, wr_cint, oCint_n, wrap_u8, wrap_u64, sub_small, mul_small, leq_n, oIxs_row, Nat.reduceSub, Nat.reduceMul, Nat.reduceLT, Nat.reduceDiv, Nat.reducePow, oMk_row, repeatL, List.replicate, oB2s_row, bytesOf, Bool.false_or, Bool.or_false, Bool.or_self, Bool.or_true, Bool.true_or])
  refine wr_call ?_
  simp only [evs_nil, evs_cons, Gt_St, reduceIte]
  refine (fits_ev n 16 65535 (by decide) hn _).mono ?_
  rintro d h' ⟨rfl, rfl⟩
  simp only [yes]
  repeat' (first | refine wp_skip ?_ | refine wp_exit ?_ | refine wp_ret ?_ | refine wp_seq ?_ | refine wp_cond ?_ | refine wp_block ?_ | refine wp_dreg ?_ | refine wp_reg ?_ | refine wp_loopU ?_ | simp (maxSteps := 2000000) (disch := first | omega | (simp only [next_new, next_put]; omega) | fail) only [go_sem, add_small, shr_bin, rem_u, quo_u, wr_cint, oCint_n, wrap_u8, wrap_u64, sub_small, mul_small, leq_n, oIxs_row, Nat.reduceSub, Nat.reduceMul, Nat.reduceLT, Nat.reduceDiv, Nat.reducePow, oMk_row, repeatL, List.replicate, oB2s_row, bytesOf, Bool.false_or, Bool.or_false, Bool.or_self, Bool.or_true, Bool.true_or])
  refine wr_call ?_
  simp only [evs_nil, evs_cons, Gt_St, reduceIte]
  refine (rev2_ev h'.next (.int .u8 (.ofNat (n / 256 % 256))) (.int .u8 (.ofNat (n / 1 % 256))) ⟨rfl, rfl, same_u8 _, rfl, rfl, same_u8 _⟩ _ (by simp (disch := first | omega | (simp only [next_new, next_put]; omega) | fail) only [hget_put_same]) (by simp only [next_new, next_put]; omega)).mono ?_
  rintro d h2 ⟨rfl, hm2, hn2, hf2⟩
  have hB : oB2s (.row h'.next 0 2 2) h2 = .ok (.str (le 2 n)) h2 := by
    refine oB2s_row hm2 rfl ?_
    simp only [le, Nat.div_div_eq_div_mul, Nat.reduceMul]
    rw [Nat.div_one]
    exact bytes_cons (bytes_cons rfl)
  repeat' (first | refine wp_skip ?_ | refine wp_exit ?_ | refine wp_ret ?_ | refine wp_seq ?_ | refine wp_cond ?_ | refine wp_block ?_ | refine wp_dreg ?_ | refine wp_reg ?_ | simp (maxSteps := 2000000) (disch := first | omega | (simp only [next_new, next_put]; omega) | fail) only [go_sem, add_small, shr_bin, rem_u, quo_u, wr_cint, oCint_n, wrap_u8, wrap_u64, sub_small, mul_small, leq_n, oIxs_row, Nat.reduceSub, Nat.reduceMul, Nat.reduceLT, Nat.reduceDiv, Nat.reducePow, oMk_row, repeatL, List.replicate, oB2s_row, bytesOf, Bool.false_or, Bool.or_false, Bool.or_self, Bool.or_true, Bool.true_or, hB])
  refine ⟨?_, fun j hj => ?_⟩
  · rw [hn2]; simp only [next_new, next_put]; omega
  · rw [hf2 j (by omega)]
    simp (disch := omega) only [hget_put_ne, hget_new_ne]
end Run
end Go.Abs
