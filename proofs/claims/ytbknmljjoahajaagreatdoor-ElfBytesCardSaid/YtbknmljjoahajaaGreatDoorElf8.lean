/- The document's bytes of a number. -/
import Derived.Test.YtbknmljjoahajaaGreatDoorElf5
set_option linter.unusedVariables false
set_option linter.unusedSimpArgs false
namespace Go.Abs
namespace Run
open Go.Proofs
variable {E : Env}
attribute [local go_sem] wr_mv wr_len wr_fa wr_nil wr_ext wr_not wr_ixs wr_sl wr_ld1 wr_ldN wr_st wr_alloc wr_box wr_mkmap wr_int wr_pick wr_build wr_buildSl wr_look wr_mk wr_app wr_sbin wr_fog wr_end wd_mv wd_fa wd_nil wd_ext wd_ixs wd_alloc wd_build wd_buildSl wd_ld1 wd_ldN wd_st wd_mset wd_app wd_int wd_end sO_ok sD_ok sR_ok sL_ok sB_t sB_f sG_t sG_f kseq_n kseq_r kseq_e kblk_n kblk_r kblk_e kfn_n kfn_r sC_ok kc_eq kd_eq oFa_ptr oFa_ep oNil_ptr oNil_ep oLen_sl oLen_row oLen_nil oExt_0 oExt_1 oExt_2 okq_some oNot_bool oSl_nil rc_ptr rc_ep oRd oEp oLd1_some oLdN_some oSt oInt_int oPick_b oBuild_some oBuildSl_some ffill_nil oFill_some ffill patch oFind_some oFind_none oOne_some oTwo_some cfin_one cfin_two wanted_b wanted_u evs_nil evs_cons fargs_nil fargs_cons cells_int cells_str cells_agg cells_sl cells_row cells_map cells_ptr cells_bool cells_nil one_nil one_cons one_int one_str one_sl one_row one_map one_ptr one_bool one_vnil deql dneq dlss dgtr dgeq iEq_n iLt_n iLe beq_dec blt_dec ble_dec mem_nil readOk_nil readOk_rd loudOk_nil loudOk_loud loudOk_none List.drop_succ_cons List.drop_zero List.drop_nil List.take_succ_cons List.take_zero List.take_nil List.length_cons List.length_nil List.cons_append List.nil_append Nat.reduceAdd Nat.reduceEqDiff Nat.reduceLeDiff decide_true decide_false Bool.and_self Bool.and_true Bool.true_and Bool.not_true Bool.not_false cond_true cond_false true_and and_true Gt_St p0_eq kD_eq reduceIte Nat.add_zero Nat.zero_add next_new next_put hget_new_le hget_new_ne hget_put_same hget_put_ne wr_b2s wr_lens wr_slstr oLens_str oB2s_nil kloopu_n kloopu_e kloopu_r oApp_unf oApp_unil oSame_some readOk_loudS loudOk_rdS mem_cons loudT readT sames_one Option.map_some Option.map_none
attribute [local go_sem] tg0 sg0 tg1 sg1 tg2 sg2 tg3 sg3 tg4 sg4 tg5 sg5 tg6 sg6 tg7 sg7 tg8 sg8 tg9 sg9 tg10 sg10 tg11 sg11 tg12 sg12 tg13 sg13 tg14 sg14 tg15 sg15 tg16 sg16 tg17 sg17 tg18 sg18 tg19 sg19 tg20 sg20 tg21 sg21 tg22 sg22 tg23 sg23 tg24 sg24 tg25 sg25 tg26 sg26 tg27 sg27 tg28 sg28 tg29 sg29 tg30 sg30 tg31 sg31 tg32 sg32 tg33 sg33 tg34 sg34 tg35 sg35 tg36 sg36 tg37 sg37 tg38 sg38 tg39 sg39 tg40 sg40 tg41 sg41 tg42 sg42 tg43 sg43 tg44 sg44 tg45 sg45 tg46 sg46 tg47 sg47 tg48 sg48 tg49 sg49 tg50 sg50 tg51 sg51 tg52 sg52 tg53 sg53 tg54 sg54 tg55 sg55 tg56 sg56 tg57 sg57 tg58 sg58 tg59 sg59 tg60 sg60 tg61 sg61 tg62 sg62 tg63 sg63 tg64 sg64 tg65 sg65 tg66 sg66 tg67 sg67 tg68 sg68 tg69 sg69 tg70 sg70 tg71 sg71 tg72 sg72 tg73 sg73 tg74 sg74 tg75 sg75 tg76 sg76 tg77 sg77 tg78 sg78 tg79 sg79 tg80 sg80 tg81 sg81 tg82 sg82 tg83 sg83 tg84 sg84 tg85 sg85 tg86 sg86 tg87 sg87 tg88 sg88 tg89 sg89 tg90 sg90 tg91 sg91 tg92 sg92 tg93 sg93 tg94 sg94 tg95 sg95 tg96 sg96
def leC (k n : Nat) : List D := (le k n).map fun b => .int .u8 (.ofNat b)
theorem le_len : ∀ k n, (le k n).length = k
  | 0, n => rfl
  | k + 1, n => by simp [le, le_len k]
theorem le_snoc : ∀ k n, le (k + 1) n = le k n ++ [n / 256 ^ k % 256]
  | 0, n => by simp [le]
  | k + 1, n => by
    have ih := le_snoc k (n / 256)
    rw [le, ih, le, List.cons_append, Nat.div_div_eq_div_mul, Nat.pow_succ, Nat.mul_comm (256 ^ k) 256]
theorem bytes_le : ∀ k n, bytesOf (leC k n) = some (le k n)
  | 0, n => rfl
  | k + 1, n => bytes_cons (bytes_le k (n / 256))
theorem leC_snoc (k n : Nat) : leC (k + 1) n = leC k n ++ [.int .u8 (.ofNat (n / 256 ^ k % 256))] := by unfold leC; rw [le_snoc, List.map_append]; rfl
theorem leC_len (k n : Nat) : (leC k n).length = k := by unfold leC; rw [List.length_map, le_len]
def PI (k n : Nat) (h0 : H) (_ : Tr D) (_ : H) (m : Nat) (t : Tr D) (h : H) : Prop :=
  ∃ i kk d, i ≤ k ∧ m = k - i ∧ Gt 10 t = .int .i64 (.ofNat i) ∧ Gt 0 t = .int .u64 (.ofNat (n / 256 ^ i)) ∧ Gt 1 t = .int .i64 (.ofNat k) ∧ Gt 2 t = .v (.bool true) ∧ Gt 9 t = d ∧ Grow2 h0.next h 5 1 i kk (leC i n) d ∧ Gr h0 h
set_option maxRecDepth 100000 in
set_option maxHeartbeats 16000000 in
theorem rput_ev (k n : Nat) (hk : k = 2 ∨ k = 4 ∨ k = 8) (hn : n / 256 ^ k = 0) (hm : n ≤ 18446744073709551615) (h : H) : WC E elf_tab4 124 [.int .u64 (.ofNat n), .int .i64 (.ofNat k), .v (.bool true)] h fun d h' => d = .tup [.str (le k n), .int .i64 (.ofNat 0)] ∧ Gr h h' := by
  have hk8 : 0 < k ∧ k ≤ 8 := by omega
  refine wc_fn (ss := ss) (T := elf_tab4) tt124 ?_
  simp only [go_sem, ss]
  repeat' (first | refine wp_skip ?_ | refine wp_exit ?_ | refine wp_ret ?_ | refine wp_seq ?_ | refine wp_cond ?_ | refine wp_block ?_ | refine wp_dreg ?_ | refine wp_reg ?_ | simp (maxSteps := 2000000) (disch := first | omega | (simp only [next_new, next_put]; omega) | fail) only [go_sem])
  refine wr_call ?_
  simp only [evs_nil, evs_cons, Gt_St, reduceIte]
  refine (rgood_ev k hk h).mono ?_
  rintro d h' ⟨rfl, rfl⟩
  simp only [yes]
  repeat' (first | refine wp_skip ?_ | refine wp_exit ?_ | refine wp_ret ?_ | refine wp_seq ?_ | refine wp_cond ?_ | refine wp_block ?_ | refine wp_dreg ?_ | refine wp_reg ?_ | simp (maxSteps := 2000000) (disch := first | omega | (simp only [next_new, next_put]; omega) | fail) only [go_sem, add_small, shr_bin, rem_u, quo_u, wr_cint, oCint_n, wrap_u8, wrap_u64, sub_small, mul_small, leq_n, oIxs_row, Nat.reduceSub, Nat.reduceMul, Nat.reduceLT, Nat.reduceDiv, Nat.reducePow, oMk_row, repeatL, List.replicate, oB2s_row, bytesOf, Bool.false_or, Bool.or_false, Bool.or_self, Bool.or_true, Bool.true_or, oTip, Nat.reduceBEq, Nat.mod_mod])
  refine wp_loopC (PI k n h') k ?_ ?_
  · refine ⟨0, 0, _, Nat.zero_le _, rfl, ?_, ?_, ?_, ?_, ?_, .inl ⟨rfl, rfl, rfl⟩, Gr.refl _⟩
    all_goals simp (maxSteps := 2000000) (disch := first | omega | (simp only [next_new, next_put]; omega) | fail) only [go_sem]
    simp
  rintro m t h ⟨i, kk, d, hi, rfl, g10, g0, g1, g2, g9, hG, hgr⟩
  have hni : n / 256 ^ i ≤ 18446744073709551615 := Nat.le_trans (Nat.div_le_self _ _) hm
  have hq := quo_u (E := E) (t := 39) (o1 := .tmp 27) (o2 := .const (.int .u64 (.ofNat 256))) (n / 256 ^ i) hni
  have hdd : n / 256 ^ i / 256 = n / 256 ^ (i + 1) := by rw [Nat.div_div_eq_div_mul, Nat.pow_succ]
  rw [hdd] at hq
  by_cases hik : i < k
  · have hd : decide (i < k) = true := decide_eq_true hik
    rcases hG with ⟨rfl, rfl, hG0⟩ | ⟨h0, rfl, hG1, hG2, hG3, hG4⟩
    · simp only [Nat.pow_zero, Nat.div_one] at g0 hq
      repeat' (first | refine wp_skip ?_ | refine wp_exit ?_ | refine wp_ret ?_ | refine wp_seq ?_ | refine wp_cond ?_ | refine wp_block ?_ | refine wp_dreg ?_ | refine wp_reg ?_ | simp (maxSteps := 2000000) (disch := first | omega | (simp only [next_new, next_put]; omega) | fail) only [go_sem, add_small, shr_bin, rem_u, quo_u, wr_cint, oCint_n, wrap_u8, wrap_u64, sub_small, mul_small, leq_n, oIxs_row, Nat.reduceSub, Nat.reduceMul, Nat.reduceLT, Nat.reduceDiv, Nat.reducePow, oMk_row, repeatL, List.replicate, oB2s_row, bytesOf, Bool.false_or, Bool.or_false, Bool.or_self, Bool.or_true, Bool.true_or, oTip, Nat.reduceBEq, Nat.mod_mod, g10, g0, g1, g2, g9, hd, hq, kloop_n, kloop_e])
      refine ⟨k - 1, by omega, 1, h.next + 1, _, by omega, rfl, ?_, ?_, ?_, ?_, ?_, .inr ⟨by omega, rfl, ?_, ?_, ?_, ?_⟩, ?_⟩
      all_goals try simp (maxSteps := 2000000) (disch := first | omega | (simp only [next_new, next_put]; omega) | fail) only [go_sem, g1, g2, Nat.pow_one, leC, le, List.map_cons, List.map_nil]
      all_goals try (simp only [next_new, next_put]; omega)
      all_goals try exact g1
      all_goals try exact g2
      all_goals first | (have := hgr.1; omega) | exact (hgr.new _).new _
    · have hap : ∀ y H, oTip (some (.tip i 5)) 5 1 1 kk i 1 (leC i n) [y] H = .ok (.sl kk (i + 1) (leC i n ++ [y])) (fput' H kk (.tip (i + 1) 5)) := fun y H => oTip_ok hG2 (by omega) (by omega)
      repeat' (first | refine wp_skip ?_ | refine wp_exit ?_ | refine wp_ret ?_ | refine wp_seq ?_ | refine wp_cond ?_ | refine wp_block ?_ | refine wp_dreg ?_ | refine wp_reg ?_ | simp (maxSteps := 2000000) (disch := first | omega | (simp only [next_new, next_put]; omega) | fail) only [go_sem, add_small, shr_bin, rem_u, quo_u, wr_cint, oCint_n, wrap_u8, wrap_u64, sub_small, mul_small, leq_n, oIxs_row, Nat.reduceSub, Nat.reduceMul, Nat.reduceLT, Nat.reduceDiv, Nat.reducePow, oMk_row, repeatL, List.replicate, oB2s_row, bytesOf, Bool.false_or, Bool.or_false, Bool.or_self, Bool.or_true, Bool.true_or, Nat.reduceBEq, Nat.mod_mod, g10, g0, g1, g2, g9, hd, hq, hG1, hap, kloop_n, kloop_e])
      refine ⟨k - (i + 1), by omega, i + 1, kk, _, by omega, rfl, ?_, ?_, ?_, ?_, ?_, .inr ⟨by omega, rfl, ?_, ?_, ?_, ?_⟩, ?_⟩
      all_goals try simp (maxSteps := 2000000) (disch := first | omega | (simp only [next_new, next_put]; omega) | fail) only [go_sem, g1, g2]
      all_goals try (simp only [next_new, next_put]; omega)
      all_goals try exact g1
      all_goals try exact g2
      all_goals first | (rw [leC_snoc]; done) | (rw [leC_len]; omega) | (have := hgr.1; omega) | exact ((hgr.new _).put hG3 _)
  · have e : i = k := by omega
    subst e
    have hd : decide (i < i) = false := decide_eq_false (by omega)
    rcases hG with ⟨rfl, _⟩ | ⟨h0, rfl, hG1, hG2, hG3, hG4⟩
    · omega
    have hB : ∀ H, oB2s (.sl kk i (leC i n)) H = .ok (.str (le i n)) H := fun H => oB2s_sl (leC_len i n) (bytes_le i n)
    rw [hn] at g0
    have hz : dneq .u64 (.ofNat 0) (.ofNat 0) = .v (.bool false) := rfl
    repeat' (first | refine wp_skip ?_ | refine wp_exit ?_ | refine wp_ret ?_ | refine wp_seq ?_ | refine wp_cond ?_ | refine wp_block ?_ | refine wp_dreg ?_ | refine wp_reg ?_ | simp (maxSteps := 2000000) (disch := first | omega | (simp only [next_new, next_put]; omega) | fail) only [go_sem, add_small, shr_bin, rem_u, quo_u, wr_cint, oCint_n, wrap_u8, wrap_u64, sub_small, mul_small, leq_n, oIxs_row, Nat.reduceSub, Nat.reduceMul, Nat.reduceLT, Nat.reduceDiv, Nat.reducePow, oMk_row, repeatL, List.replicate, oB2s_row, bytesOf, Bool.false_or, Bool.or_false, Bool.or_self, Bool.or_true, Bool.true_or, oTip, Nat.reduceBEq, Nat.mod_mod, g10, g0, g1, g2, g9, hd, hz, hB, kloop_n, kloop_e])
    exact hgr
end Run
end Go.Abs
