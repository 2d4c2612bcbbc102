/- The law ElfBytes, by rules, and in a world. -/
import Derived.Test.YtbknmljjoahajaaGreatDoorElfF
import Derived.Test.YtbknmljjoahajaaGreatDoorElfK
import Derived.Test.YtbknmljjoahajaaGreatDoorSigns
import Derived.Test.YtbknmljjoahajaaGreatDoorAbsWorld
set_option linter.unusedVariables false
set_option linter.unusedSimpArgs false
namespace Go.Abs
namespace Run
open Go.Proofs Go.RowKit
variable {E : Env}
attribute [local go_sem] wr_mv wr_len wr_fa wr_nil wr_ext wr_not wr_ixs wr_sl wr_ld1 wr_ldN wr_st wr_alloc wr_box wr_mkmap wr_int wr_pick wr_build wr_buildSl wr_look wr_mk wr_app wr_sbin wr_fog wr_end wd_mv wd_fa wd_nil wd_ext wd_ixs wd_alloc wd_build wd_buildSl wd_ld1 wd_ldN wd_st wd_mset wd_app wd_int wd_end sO_ok sD_ok sR_ok sL_ok sB_t sB_f sG_t sG_f kseq_n kseq_r kseq_e kblk_n kblk_r kblk_e kfn_n kfn_r sC_ok kc_eq kd_eq oFa_ptr oFa_ep oNil_ptr oNil_ep oLen_sl oLen_row oLen_nil oExt_0 oExt_1 oExt_2 okq_some oNot_bool oSl_nil rc_ptr rc_ep oRd oEp oLd1_some oLdN_some oSt oInt_int oPick_b oBuild_some oBuildSl_some ffill_nil oFill_some ffill patch oFind_some oFind_none oOne_some oTwo_some cfin_one cfin_two wanted_b wanted_u evs_nil evs_cons fargs_nil fargs_cons cells_int cells_str cells_agg cells_sl cells_row cells_map cells_ptr cells_bool cells_nil one_nil one_cons one_int one_str one_sl one_row one_map one_ptr one_bool one_vnil deql dneq dlss dgtr dgeq iEq_n iLt_n iLe beq_dec blt_dec ble_dec mem_nil readOk_nil readOk_rd loudOk_nil loudOk_loud loudOk_none List.drop_succ_cons List.drop_zero List.drop_nil List.take_succ_cons List.take_zero List.take_nil List.length_cons List.length_nil List.cons_append List.nil_append Nat.reduceAdd Nat.reduceEqDiff Nat.reduceLeDiff decide_true decide_false Bool.and_self Bool.and_true Bool.true_and Bool.not_true Bool.not_false cond_true cond_false true_and and_true Gt_St p0_eq kD_eq reduceIte Nat.add_zero Nat.zero_add next_new next_put hget_new_le hget_new_ne hget_put_same hget_put_ne wr_b2s wr_lens wr_slstr oLens_str oB2s_nil kloopu_n kloopu_e kloopu_r oApp_unf oApp_unil oSame_some readOk_loudS loudOk_rdS mem_cons loudT readT sames_one Option.map_some Option.map_none add_small shr_bin rem_u quo_u wr_cint oCint_n wrap_u8 wrap_u64 sub_small mul_small leq_n oIxs_row Nat.reduceSub Nat.reduceMul Nat.reduceLT Nat.reduceDiv Nat.reducePow oMk_row repeatL List.replicate oB2s_row bytesOf Bool.false_or Bool.or_false Bool.or_self Bool.or_true Bool.true_or oTip Nat.reduceBEq Nat.mod_mod oInt_str wd_ixa wr_ixa oIxa_ep wd_cint wd_lens wrap_i64 len_le Bool.cond_true
attribute [local go_sem] tg0 sg0 tg1 sg1 tg2 sg2 tg3 sg3 tg4 sg4 tg5 sg5 tg6 sg6 tg7 sg7 tg8 sg8 tg9 sg9 tg10 sg10 tg11 sg11 tg12 sg12 tg13 sg13 tg14 sg14 tg15 sg15 tg16 sg16 tg17 sg17 tg18 sg18 tg19 sg19 tg20 sg20 tg21 sg21 tg22 sg22 tg23 sg23 tg24 sg24 tg25 sg25 tg26 sg26 tg27 sg27 tg28 sg28 tg29 sg29 tg30 sg30 tg31 sg31 tg32 sg32 tg33 sg33 tg34 sg34 tg35 sg35 tg36 sg36 tg37 sg37 tg38 sg38 tg39 sg39 tg40 sg40 tg41 sg41 tg42 sg42 tg43 sg43 tg44 sg44 tg45 sg45 tg46 sg46 tg47 sg47 tg48 sg48 tg49 sg49 tg50 sg50 tg51 sg51 tg52 sg52 tg53 sg53 tg54 sg54 tg55 sg55 tg56 sg56 tg57 sg57 tg58 sg58 tg59 sg59 tg60 sg60 tg61 sg61 tg62 sg62 tg63 sg63 tg64 sg64 tg65 sg65 tg66 sg66 tg67 sg67 tg68 sg68 tg69 sg69 tg70 sg70 tg71 sg71 tg72 sg72 tg73 sg73 tg74 sg74 tg75 sg75 tg76 sg76 tg77 sg77 tg78 sg78 tg79 sg79 tg80 sg80 tg81 sg81 tg82 sg82 tg83 sg83 tg84 sg84 tg85 sg85 tg86 sg86 tg87 sg87 tg88 sg88 tg89 sg89 tg90 sg90 tg91 sg91 tg92 sg92 tg93 sg93 tg94 sg94 tg95 sg95 tg96 sg96
theorem beqL_refl : ∀ l : List Nat, beqL l l = true
  | [] => rfl
  | a :: r => by simp only [beqL, Nat.beq_refl, beqL_refl r, Bool.and_self]
theorem oInt_eqs {f : IntKind → Int → Int → D} {ty : TypeId} {ox oy : Operand} {a b : List Nat} {h : H} : oInt E f .eql ty ox oy (.str a) (.str b) h = .ok (.v (.bool (beqL a b))) h := by
  simp only [oInt, eq_str, ok?]
theorem wakes_ev (h : H) : WC E elf_tab4 14 [] h fun d h' => d = yes ∧ h' = h := by
  refine wc_lib tt14 ?_
  exact ⟨rfl, rfl⟩
theorem rtext_ev (h : H) : WC E elf_tab4 16 [] h fun d h' => d = elf_text ∧ h' = h := by
  refine wc_lib tt16 ?_
  exact ⟨rfl, rfl⟩
set_option maxRecDepth 100000 in
theorem text_ev (h : H) : WC E elf_tab4 15 [] h fun d h' => d = elf_text ∧ h' = h := by
  refine wc_fn (ss := ss) (T := elf_tab4) tt15 ?_
  simp only [go_sem, ss]
  repeat' (with_reducible (first | refine wp_skip ?_ | refine wp_exit ?_ | refine wp_ret ?_ | refine wp_seq ?_ | refine wp_cond ?_ | refine wp_block ?_ | refine wp_dreg ?_ | refine wp_reg ?_ | simp (maxSteps := 2000000) (disch := first | omega | (simp only [next_new, next_put]; omega) | (simp only [List.length_append, le_len, List.length_cons, List.length_nil, Nat.reduceAdd, Nat.reduceLeDiff]; first | done | omega) | fail) only [go_sem, oInt_eqs]))
  first | exact ⟨rfl, rfl⟩ | rfl
theorem cuts_ok {raw : List SC} (hr : ∀ p ∈ raw, p.1 ≤ 4294967295 ∧ ∀ b ∈ p.2, b < 256) : SOk ((raw.map cutS).take (min raw.length 20)) := by
  refine ⟨by rw [List.length_take]; omega, fun p hp => ?_⟩
  obtain ⟨q, hq, rfl⟩ := List.mem_map.1 (List.mem_of_mem_take hp)
  obtain ⟨h1, h2⟩ := hr q hq
  exact ⟨h1, by simp only [cutS, List.length_take]; omega, fun b hb => h2 b (List.mem_of_mem_take hb)⟩
set_option maxHeartbeats 4000000 in
theorem law_ev (raw : List SC) (ld : D) (hr : ∀ p ∈ raw, p.1 ≤ 4294967295 ∧ ∀ b ∈ p.2, b < 256) (hld : RowD ld raw.length (secC raw)) (h : H) : WC E elf_tab4 3 [ld] h fun d h' => d = yes := by
  obtain ⟨tx, htx⟩ : ∃ l, elf_text = .str l := ⟨_, rfl⟩
  have hok := cuts_ok hr
  have hsl : ((raw.map cutS).take (min raw.length 20)).length = min raw.length 20 := by rw [List.length_take, List.length_map]; omega
  refine wc_fn (ss := ss) (T := elf_tab4) tt3 ?_
  simp only [go_sem, ss]
  repeat' (with_reducible (first | refine wp_skip ?_ | refine wp_exit ?_ | refine wp_ret ?_ | refine wp_seq ?_ | refine wp_cond ?_ | refine wp_block ?_ | refine wp_dreg ?_ | refine wp_reg ?_ | simp (maxSteps := 2000000) (disch := first | omega | (simp only [next_new, next_put]; omega) | (simp only [List.length_append, le_len, List.length_cons, List.length_nil, Nat.reduceAdd, Nat.reduceLeDiff]; first | done | omega) | fail) only [go_sem, oInt_eqs]))
  refine wr_call ?_
  simp only [evs_nil, evs_cons, Gt_St, reduceIte]
  refine (sections_ev raw ld hld _).mono ?_
  rintro d h1 ⟨da, db, rfl, hda, hdb, hg1⟩
  have hda : RowD da ((raw.map cutS).take (min raw.length 20)).length (secC ((raw.map cutS).take (min raw.length 20))) := by rw [hsl]; exact hda
  have hdb : RowD db ((raw.map cutS).take (min raw.length 20)).length (secC ((raw.map cutS).take (min raw.length 20))) := by rw [hsl]; exact hdb
  repeat' (with_reducible (first | refine wp_skip ?_ | refine wp_exit ?_ | refine wp_ret ?_ | refine wp_seq ?_ | refine wp_cond ?_ | refine wp_block ?_ | refine wp_dreg ?_ | refine wp_reg ?_ | simp (maxSteps := 2000000) (disch := first | omega | (simp only [next_new, next_put]; omega) | (simp only [List.length_append, le_len, List.length_cons, List.length_nil, Nat.reduceAdd, Nat.reduceLeDiff]; first | done | omega) | fail) only [go_sem, oInt_eqs]))
  refine wr_call ?_
  simp only [evs_nil, evs_cons, Gt_St, reduceIte]
  refine (wakes_ev _).mono ?_
  rintro d h2 ⟨rfl, rfl⟩
  simp only [yes]
  repeat' (with_reducible (first | refine wp_skip ?_ | refine wp_exit ?_ | refine wp_ret ?_ | refine wp_seq ?_ | refine wp_cond ?_ | refine wp_block ?_ | refine wp_dreg ?_ | refine wp_reg ?_ | simp (maxSteps := 2000000) (disch := first | omega | (simp only [next_new, next_put]; omega) | (simp only [List.length_append, le_len, List.length_cons, List.length_nil, Nat.reduceAdd, Nat.reduceLeDiff]; first | done | omega) | fail) only [go_sem, oInt_eqs]))
  refine wr_call ?_
  simp only [evs_nil, evs_cons, Gt_St, reduceIte]
  refine (text_ev _).mono ?_
  rintro d h2 ⟨rfl, rfl⟩
  repeat' (with_reducible (first | refine wp_skip ?_ | refine wp_exit ?_ | refine wp_ret ?_ | refine wp_seq ?_ | refine wp_cond ?_ | refine wp_block ?_ | refine wp_dreg ?_ | refine wp_reg ?_ | simp (maxSteps := 2000000) (disch := first | omega | (simp only [next_new, next_put]; omega) | (simp only [List.length_append, le_len, List.length_cons, List.length_nil, Nat.reduceAdd, Nat.reduceLeDiff]; first | done | omega) | fail) only [go_sem, oInt_eqs, htx]))
  refine wr_call ?_
  simp only [evs_nil, evs_cons, Gt_St, reduceIte]
  refine (rtext_ev _).mono ?_
  rintro d h2 ⟨rfl, rfl⟩
  repeat' (with_reducible (first | refine wp_skip ?_ | refine wp_exit ?_ | refine wp_ret ?_ | refine wp_seq ?_ | refine wp_cond ?_ | refine wp_block ?_ | refine wp_dreg ?_ | refine wp_reg ?_ | simp (maxSteps := 2000000) (disch := first | omega | (simp only [next_new, next_put]; omega) | (simp only [List.length_append, le_len, List.length_cons, List.length_nil, Nat.reduceAdd, Nat.reduceLeDiff]; first | done | omega) | fail) only [go_sem, oInt_eqs, htx, beqL_refl]))
  refine wr_call ?_
  simp only [evs_nil, evs_cons, Gt_St, reduceIte]
  refine (bytes_ev _ da hok hda _).mono ?_
  rintro d h2 ⟨rfl, hg2⟩
  repeat' (with_reducible (first | refine wp_skip ?_ | refine wp_exit ?_ | refine wp_ret ?_ | refine wp_seq ?_ | refine wp_cond ?_ | refine wp_block ?_ | refine wp_dreg ?_ | refine wp_reg ?_ | simp (maxSteps := 2000000) (disch := first | omega | (simp only [next_new, next_put]; omega) | (simp only [List.length_append, le_len, List.length_cons, List.length_nil, Nat.reduceAdd, Nat.reduceLeDiff]; first | done | omega) | fail) only [go_sem, oInt_eqs]))
  refine wr_call ?_
  simp only [evs_nil, evs_cons, Gt_St, reduceIte]
  refine (rbytes_ev _ db hok hdb _).mono ?_
  rintro d h3 ⟨rfl, hg3⟩
  repeat' (with_reducible (first | refine wp_skip ?_ | refine wp_exit ?_ | refine wp_ret ?_ | refine wp_seq ?_ | refine wp_cond ?_ | refine wp_block ?_ | refine wp_dreg ?_ | refine wp_reg ?_ | simp (maxSteps := 2000000) (disch := first | omega | (simp only [next_new, next_put]; omega) | (simp only [List.length_append, le_len, List.length_cons, List.length_nil, Nat.reduceAdd, Nat.reduceLeDiff]; first | done | omega) | fail) only [go_sem, oInt_eqs, beqL_refl]))
/-! In a world. -/
theorem isTree_T {o : O D} {P : Program} (h : isT o = true) : isTree o P 4 yes = true := by
  obtain ⟨h', rfl⟩ := isT_eq h
  rfl
theorem sim14 : LibSim Tryz.prog 14 (libRun [] yes) glob := libRun_sim (k := 4) elf_told3 (tab_over TA_ok elf_libs3) glob_tree (enters_of Tryz.func14 (by kernel_rfl) rfl) rfl (isTree_T elf_wakes_run)
theorem sim16 : LibSim Tryz.prog 16 (libRun [] elf_text) glob := libRun_sim (k := 4) told0 tab0b_ok glob_tree (enters_of Tryz.func16 (by kernel_rfl) rfl) rfl ref_text_run
theorem sim118 : LibSim Tryz.prog 118 good3 glob := libOr_sim (libRun_sim (k := 4) told0 tab0b_ok glob_tree (enters_of Tryz.func118 (by kernel_rfl) rfl) (by kernel_rfl) good118_2) (libOr_sim (libRun_sim (k := 4) told0 tab0b_ok glob_tree (enters_of Tryz.func118 (by kernel_rfl) rfl) (by kernel_rfl) good118_4) (libRun_sim (k := 4) told0 tab0b_ok glob_tree (enters_of Tryz.func118 (by kernel_rfl) rfl) (by kernel_rfl) good118_8))
theorem sim161 : LibSim Tryz.prog 161 good3 glob := libOr_sim (libRun_sim (k := 4) told0 tab0b_ok glob_tree (enters_of Tryz.func161 (by kernel_rfl) rfl) (by kernel_rfl) good161_2) (libOr_sim (libRun_sim (k := 4) told0 tab0b_ok glob_tree (enters_of Tryz.func161 (by kernel_rfl) rfl) (by kernel_rfl) good161_4) (libRun_sim (k := 4) told0 tab0b_ok glob_tree (enters_of Tryz.func161 (by kernel_rfl) rfl) (by kernel_rfl) good161_8))
theorem sim156 : LibSim Tryz.prog 156 mask3 glob := libOr_sim (libRun_sim (k := 4) told0 tab0b_ok glob_tree (enters_of Tryz.func156 (by kernel_rfl) rfl) (by kernel_rfl) mask16) (libOr_sim (libRun_sim (k := 4) told0 tab0b_ok glob_tree (enters_of Tryz.func156 (by kernel_rfl) rfl) (by kernel_rfl) mask32) (libRun_sim (k := 4) told0 tab0b_ok glob_tree (enters_of Tryz.func156 (by kernel_rfl) rfl) (by kernel_rfl) mask64))
theorem good3_grow : ∀ ds h, Ogrow h (good3 ds h) := libOr_grow (libRun_grow _ _) (libOr_grow (libRun_grow _ _) (libRun_grow _ _))
theorem mask3_grow : ∀ ds h, Ogrow h (mask3 ds h) := libOr_grow (libRun_grow _ _) (libOr_grow (libRun_grow _ _) (libRun_grow _ _))
theorem elf_told4 : Told Tryz.prog glob elf_env4 := by
  refine told Tryz.prog glob elf_libs4 follows' (fun f lf h => ?_) (fun f lf h => ?_)
  · unfold elf_libs4 at h
    rcases bif_some h with ⟨hf, rfl⟩ | h
    · rw [Nat.eq_of_beq_eq_true hf]; exact sim14
    rcases bif_some h with ⟨hf, rfl⟩ | h
    · rw [Nat.eq_of_beq_eq_true hf]; exact sim16
    rcases bif_some h with ⟨hf, rfl⟩ | h
    · rw [Nat.eq_of_beq_eq_true hf]; exact sim118
    rcases bif_some h with ⟨hf, rfl⟩ | h
    · rw [Nat.eq_of_beq_eq_true hf]; exact sim161
    rcases bif_some h with ⟨hf, rfl⟩ | h
    · rw [Nat.eq_of_beq_eq_true hf]; exact sim156
    exact libs0_sim f lf h
  · unfold elf_libs4 at h
    rcases bif_some h with ⟨hf, rfl⟩ | h
    · exact libRun_grow _ _
    rcases bif_some h with ⟨hf, rfl⟩ | h
    · exact libRun_grow _ _
    rcases bif_some h with ⟨hf, rfl⟩ | h
    · exact good3_grow
    rcases bif_some h with ⟨hf, rfl⟩ | h
    · exact good3_grow
    rcases bif_some h with ⟨hf, rfl⟩ | h
    · exact mask3_grow
    exact libs0_grow f lf h
def rawN (ss : List (Int × ByteArray)) : List SC := ss.map fun p => (p.1.toNat, strD p.2)
theorem rawC {ss : List (Int × ByteArray)} (hw : ∀ p ∈ ss, (Lit.int .u32 p.1).wf = true) : rowsD (ss.map (row2 .u32)) = secC (rawN ss) := by
  induction ss with
  | nil => rfl
  | cons p r ih =>
    have h1 := ih fun q hq => hw q (List.mem_cons_of_mem _ hq)
    have h2 := hw p (List.mem_cons_self ..)
    have h3 : 0 ≤ p.1 := by
      simp [Lit.wf] at h2
      exact h2.1
    have e : (Int.ofNat p.1.toNat) = p.1 := Int.toNat_of_nonneg h3
    simp only [rowsD, secC, rawN, List.map_cons, List.flatMap_cons, row2, simp1, Option.getD_some, List.map_nil, e] at h1 ⊢
    rw [h1]
theorem globs_simp : ∀ i cs, glob i = some cs → ∀ d ∈ cs, simpD d = true := by
  intro i cs hi
  unfold glob at hi
  rcases bif_some hi with ⟨_, rfl⟩ | hi
  · exact fun d hd => List.all_eq_true.1 (by kernel_rfl) d hd
  rcases bif_some hi with ⟨_, rfl⟩ | hi
  · exact fun d hd => List.all_eq_true.1 (by kernel_rfl) d hd
  cases hi
theorem elf_world {w : World} {lv : Value} {ss : List (Int × ByteArray)} (hl : RowsAt w lv 2 (ss.map (row2 .u32))) (hw : ∀ p ∈ ss, (Lit.int .u32 p.1).wf = true) (hg : Holds glob w) :
    Calls Tryz.prog 3 #[lv] w fun e w' => e = .returned (.bool true) ∧ Below w.heap.size w w' := by
  have ok := ov_none w
  obtain ⟨ld, h1, h2⟩ := rows_D ok hl (fun r hr => by obtain ⟨v, _, rfl⟩ := List.mem_map.1 hr; rfl) (fun r hr u hu => by
    obtain ⟨v, _, rfl⟩ := List.mem_map.1 hr
    simp only [row2, List.mem_cons, List.not_mem_nil, or_false] at hu
    rcases hu with rfl | rfl <;> rfl)
  have hlen : (rawN ss).length = (ss.map (row2 .u32)).length := by simp [rawN]
  have hld : RowD ld (rawN ss).length (secC (rawN ss)) := by
    rw [rawC hw] at h1
    rcases h1 with ⟨h1, rfl⟩ | rfl
    · have : ss = [] := by simpa using h1
      subst this
      exact .inl ⟨rfl, rfl, rfl⟩
    · exact .inr ⟨0, by rw [hlen]⟩
  have hr : ∀ p ∈ rawN ss, p.1 ≤ 4294967295 ∧ ∀ b ∈ p.2, b < 256 := by
    intro p hp
    obtain ⟨q, hq, rfl⟩ := List.mem_map.1 hp
    have h3 := hw q hq
    refine ⟨?_, fun b hb => ?_⟩
    · simp [Lit.wf] at h3
      have h4 : q.1 ≤ 4294967295 := h3.2
      show q.1.toNat ≤ _
      omega
    · obtain ⟨u, _, rfl⟩ := List.mem_map.1 (show b ∈ q.2.data.toList.map (·.toNat) from hb)
      exact u.toNat_lt
  have hc := law_ev (E := elf_env4) (rawN ss) ld hr hld hTop
  refine (world_calls elf_told4 tab4_ok (glob_W hg globs_simp) ok hc (.cons h2 (.nil _)) (enters_of Tryz.func3 (by kernel_rfl) rfl)).mono ?_
  rintro e w' ⟨d, h', v, g', rfl, rfl, _, hv', hb, _⟩
  cases hv'
  exact ⟨rfl, hb⟩
end Run
end Go.Abs
