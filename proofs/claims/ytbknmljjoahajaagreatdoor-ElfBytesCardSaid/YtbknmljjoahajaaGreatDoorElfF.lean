/- The document's bytes of a file; what came in, cut. -/
import Derived.Test.YtbknmljjoahajaaGreatDoorElfE
set_option linter.unusedVariables false
set_option linter.unusedSimpArgs false
namespace Go.Abs
namespace Run
open Go.Proofs
variable {E : Env}
attribute [local go_sem] wr_mv wr_len wr_fa wr_nil wr_ext wr_not wr_ixs wr_sl wr_ld1 wr_ldN wr_st wr_alloc wr_box wr_mkmap wr_int wr_pick wr_build wr_look wr_mk wr_app wr_sbin wr_fog wr_end wd_mv wd_fa wd_nil wd_ext wd_ixs wd_alloc wd_build wd_buildSl wd_ld1 wd_ldN wd_st wd_mset wd_app wd_int wd_end sO_ok sD_ok sR_ok sL_ok sB_t sB_f sG_t sG_f kseq_n kseq_r kseq_e kblk_n kblk_r kblk_e kfn_n kfn_r sC_ok kc_eq kd_eq oFa_ptr oFa_ep oNil_ptr oNil_ep oLen_sl oLen_row oLen_nil oExt_0 oExt_1 oExt_2 okq_some oNot_bool oSl_nil rc_ptr rc_ep oRd oEp oLd1_some oLdN_some oSt oInt_int oPick_b oBuild_some oBuildSl_some ffill_nil oFill_some ffill patch oFind_some oFind_none oOne_some oTwo_some cfin_one cfin_two wanted_b wanted_u evs_nil evs_cons fargs_nil fargs_cons cells_int cells_str cells_agg cells_sl cells_row cells_map cells_ptr cells_bool cells_nil one_nil one_cons one_int one_str one_sl one_row one_map one_ptr one_bool one_vnil deql dneq dlss dgtr dgeq iEq_n iLt_n iLe beq_dec blt_dec ble_dec mem_nil readOk_nil readOk_rd loudOk_nil loudOk_loud loudOk_none List.drop_succ_cons List.drop_zero List.drop_nil List.take_succ_cons List.take_zero List.take_nil List.length_cons List.length_nil List.cons_append List.nil_append Nat.reduceAdd Nat.reduceEqDiff Nat.reduceLeDiff decide_true decide_false Bool.and_self Bool.and_true Bool.true_and Bool.not_true Bool.not_false cond_true cond_false true_and and_true Gt_St p0_eq kD_eq reduceIte Nat.add_zero Nat.zero_add next_new next_put hget_new_le hget_new_ne hget_put_same hget_put_ne wr_b2s wr_lens wr_slstr oLens_str oB2s_nil kloopu_n kloopu_e kloopu_r oApp_unf oApp_unil oSame_some readOk_loudS loudOk_rdS mem_cons loudT readT sames_one Option.map_some Option.map_none
attribute [local go_sem] tg0 sg0 tg1 sg1 tg2 sg2 tg3 sg3 tg4 sg4 tg5 sg5 tg6 sg6 tg7 sg7 tg8 sg8 tg9 sg9 tg10 sg10 tg11 sg11 tg12 sg12 tg13 sg13 tg14 sg14 tg15 sg15 tg16 sg16 tg17 sg17 tg18 sg18 tg19 sg19 tg20 sg20 tg21 sg21 tg22 sg22 tg23 sg23 tg24 sg24 tg25 sg25 tg26 sg26 tg27 sg27 tg28 sg28 tg29 sg29 tg30 sg30 tg31 sg31 tg32 sg32 tg33 sg33 tg34 sg34 tg35 sg35 tg36 sg36 tg37 sg37 tg38 sg38 tg39 sg39 tg40 sg40 tg41 sg41 tg42 sg42 tg43 sg43 tg44 sg44 tg45 sg45 tg46 sg46 tg47 sg47 tg48 sg48 tg49 sg49 tg50 sg50 tg51 sg51 tg52 sg52 tg53 sg53 tg54 sg54 tg55 sg55 tg56 sg56 tg57 sg57 tg58 sg58 tg59 sg59 tg60 sg60 tg61 sg61 tg62 sg62 tg63 sg63 tg64 sg64 tg65 sg65 tg66 sg66 tg67 sg67 tg68 sg68 tg69 sg69 tg70 sg70 tg71 sg71 tg72 sg72 tg73 sg73 tg74 sg74 tg75 sg75 tg76 sg76 tg77 sg77 tg78 sg78 tg79 sg79 tg80 sg80 tg81 sg81 tg82 sg82 tg83 sg83 tg84 sg84 tg85 sg85 tg86 sg86 tg87 sg87 tg88 sg88 tg89 sg89 tg90 sg90 tg91 sg91 tg92 sg92 tg93 sg93 tg94 sg94 tg95 sg95 tg96 sg96
theorem row_at {d : D} {sx : List SC} (hd : RowD d sx.length (secC sx)) {i : Nat} (hi : i < sx.length) : ∃ rest, ∀ h, oIxs 2 d (.int .i64 (.ofNat i)) h = .ok (.ep (.int .u32 (.ofNat sx[i].1) :: .str sx[i].2 :: rest)) h := by
  rcases hd with ⟨h0, rfl, hc⟩ | ⟨k, rfl⟩
  · omega
  · obtain ⟨rest, h3⟩ := secC_at hi
    exact ⟨rest, fun h => oIxs_sl hi (by rw [h3]; rfl)⟩
theorem nums10_ev (id kind at' len : Nat) (h1 : kind ≤ 4294967295) (h2 : at' ≤ 18446744073709551615) (h3 : len ≤ 18446744073709551615) (h : H) :
    WC E elf_tab4 50 [.sl id 10 [.int .u64 (.ofNat 0), .int .u64 (.ofNat 4), .int .u64 (.ofNat kind), .int .u64 (.ofNat 4), .int .u64 (.ofNat 0), .int .u64 (.ofNat 8), .int .u64 (.ofNat 0), .int .u64 (.ofNat 8), .int .u64 (.ofNat at'), .int .u64 (.ofNat 8), .int .u64 (.ofNat len), .int .u64 (.ofNat 8), .int .u64 (.ofNat 0), .int .u64 (.ofNat 4), .int .u64 (.ofNat 0), .int .u64 (.ofNat 4), .int .u64 (.ofNat 1), .int .u64 (.ofNat 8), .int .u64 (.ofNat 0), .int .u64 (.ofNat 8)]] h fun d h' => d = .str (entryN kind at' len) ∧ Gr h h' :=
  numbers_ev [(0, 4), (kind, 4), (0, 8), (0, 8), (at', 8), (len, 8), (0, 4), (0, 4), (1, 8), (0, 8)] id (by
    intro p hp
    simp only [List.mem_cons, List.not_mem_nil, or_false] at hp
    rcases hp with rfl | rfl | rfl | rfl | rfl | rfl | rfl | rfl | rfl | rfl
    · exact ⟨k4, z4 (by decide)⟩
    · exact ⟨k4, z4 h1⟩
    · exact ⟨k8, z8 (by decide)⟩
    · exact ⟨k8, z8 (by decide)⟩
    · exact ⟨k8, z8 h2⟩
    · exact ⟨k8, z8 h3⟩
    · exact ⟨k4, z4 (by decide)⟩
    · exact ⟨k4, z4 (by decide)⟩
    · exact ⟨k8, z8 (by decide)⟩
    · exact ⟨k8, z8 (by decide)⟩) (by simp) h
def headR (table count : Nat) : List Nat := numsN [(0, 8), (1, 2), (62, 2), (1, 4), (0, 8), (0, 8), (table, 8), (0, 4), (64, 2), (0, 2), (0, 2), (64, 2), (count, 2), (0, 2)]
theorem nums14_ev (id table count : Nat) (h1 : table ≤ 18446744073709551615) (h2 : count ≤ 65535) (h : H) :
    WC E elf_tab4 50 [.sl id 14 [.int .u64 (.ofNat 0), .int .u64 (.ofNat 8), .int .u64 (.ofNat 1), .int .u64 (.ofNat 2), .int .u64 (.ofNat 62), .int .u64 (.ofNat 2), .int .u64 (.ofNat 1), .int .u64 (.ofNat 4), .int .u64 (.ofNat 0), .int .u64 (.ofNat 8), .int .u64 (.ofNat 0), .int .u64 (.ofNat 8), .int .u64 (.ofNat table), .int .u64 (.ofNat 8), .int .u64 (.ofNat 0), .int .u64 (.ofNat 4), .int .u64 (.ofNat 64), .int .u64 (.ofNat 2), .int .u64 (.ofNat 0), .int .u64 (.ofNat 2), .int .u64 (.ofNat 0), .int .u64 (.ofNat 2), .int .u64 (.ofNat 64), .int .u64 (.ofNat 2), .int .u64 (.ofNat count), .int .u64 (.ofNat 2), .int .u64 (.ofNat 0), .int .u64 (.ofNat 2)]] h fun d h' => d = .str (headR table count) ∧ Gr h h' :=
  numbers_ev [(0, 8), (1, 2), (62, 2), (1, 4), (0, 8), (0, 8), (table, 8), (0, 4), (64, 2), (0, 2), (0, 2), (64, 2), (count, 2), (0, 2)] id (by
    intro p hp
    simp only [List.mem_cons, List.not_mem_nil, or_false] at hp
    rcases hp with rfl | rfl | rfl | rfl | rfl | rfl | rfl | rfl | rfl | rfl | rfl | rfl | rfl | rfl
    · exact ⟨k8, z8 (by decide)⟩
    · exact ⟨k2, z2 (by decide)⟩
    · exact ⟨k2, z2 (by decide)⟩
    · exact ⟨k4, z4 (by decide)⟩
    · exact ⟨k8, z8 (by decide)⟩
    · exact ⟨k8, z8 (by decide)⟩
    · exact ⟨k8, z8 h1⟩
    · exact ⟨k4, z4 (by decide)⟩
    · exact ⟨k2, z2 (by decide)⟩
    · exact ⟨k2, z2 (by decide)⟩
    · exact ⟨k2, z2 (by decide)⟩
    · exact ⟨k2, z2 (by decide)⟩
    · exact ⟨k2, z2 h2⟩
    · exact ⟨k2, z2 (by decide)⟩) (by simp) h
theorem headR_len (a b : Nat) : (headR a b).length = 56 := by simp [headR, numsN, le_len]
theorem bytesN_R (sx : List SC) : bytesN sx = [127, 69, 76, 70, 2, 1, 1, 0] ++ headR (64 + (dataN sx).length) sx.length ++ dataN sx ++ tabN 0 sx := by
  unfold bytesN headN headR
  simp only [magic, List.append_assoc, List.cons_append, List.nil_append]
def catG (t : Tr D) : List (Nat × Nat × (Tr D → D)) → List D
  | [] => []
  | (_, _, g) :: r => (g t).cells ++ catG t r
def okFill (t : Tr D) (o : Nat) : List (Nat × Nat × (Tr D → D)) → Nat → Bool
  | [], n => Nat.beq o n
  | (off, size, g) :: r, n => Nat.beq off o && Nat.beq (g t).cells.length size && okFill t (o + size) r n
theorem okFill_le {t : Tr D} : ∀ {ps : List (Nat × Nat × (Tr D → D))} {o n : Nat}, okFill t o ps n = true → o ≤ n
  | [], o, n, h => Nat.le_of_eq (Nat.eq_of_beq_eq_true h)
  | (off, size, g) :: r, o, n, h => by
    simp only [okFill, Bool.and_eq_true] at h
    exact Nat.le_trans (Nat.le_add_right o size) (okFill_le h.2)
theorem ffill_pre {t : Tr D} : ∀ (ps : List (Nat × Nat × (Tr D → D))) (pre z : List D), okFill t pre.length ps (pre ++ z).length = true → ffill t (pre ++ z) ps = some (pre ++ catG t ps)
  | [], pre, z, h => by
    have := Nat.eq_of_beq_eq_true h
    rw [List.length_append] at this
    have : z = [] := List.length_eq_zero_iff.1 (by omega)
    subst this
    rfl
  | (off, size, g) :: r, pre, z, h => by
    simp only [okFill, Bool.and_eq_true] at h
    obtain ⟨⟨h1, h2⟩, h3⟩ := h
    have h1 := Nat.eq_of_beq_eq_true h1
    have h2 := Nat.eq_of_beq_eq_true h2
    subst h1
    have h4 := okFill_le h3
    rw [List.length_append] at h4
    have hb : Nat.ble (pre.length + (g t).cells.length) (pre ++ z).length = true := by rw [Nat.ble_eq, List.length_append, h2]; omega
    have hz : (pre ++ z).take pre.length ++ (g t).cells ++ (pre ++ z).drop (pre.length + (g t).cells.length) = (pre ++ (g t).cells) ++ z.drop size := by
      rw [List.take_left, ← List.drop_drop, List.drop_left, h2]
    rw [ffill_cons rfl h2]
    simp only [patch, hb, cond_true, oFill_some]
    rw [hz, ffill_pre r _ _ (by rw [List.length_append, h2]; rw [← hz, List.length_append, List.length_append, List.length_take, List.length_drop, List.length_append, h2]; rw [List.length_append] at h3; have e : min pre.length (pre.length + z.length) + size + (pre.length + z.length - (pre.length + size)) = pre.length + z.length := by omega
                                rw [e]; exact h3)]
    simp only [catG, List.append_assoc]
theorem ffill_cat {t : Tr D} {ps : List (Nat × Nat × (Tr D → D))} {z : List D} (h : okFill t 0 ps z.length = true) : ffill t z ps = some (catG t ps) := ffill_pre ps [] z h
def BJ (sx : List SC) (ld : D) (h0 : H) (_ : Tr D) (_ : H) (m : Nat) (t : Tr D) (h : H) : Prop :=
  ∃ i, i ≤ sx.length ∧ m = sx.length - i ∧ Gt 0 t = ld ∧ Gt 3 t = .int .i64 (.ofNat sx.length) ∧ Gt 4 t = .str (dataN (sx.take i)) ∧ Gt 5 t = .str (tabN 0 (sx.take i)) ∧ Gt 6 t = .int .i64 (.ofNat i) ∧ Gr h0 h
set_option maxHeartbeats 16000000 in
theorem rbytes_ev (sx : List SC) (ld : D) (hs : SOk sx) (hld : RowD ld sx.length (secC sx)) (h : H) : WC E elf_tab4 18 [ld] h fun d h' => d = .str (bytesN sx) ∧ Gr h h' := by
  have hn := hs.n
  have x0 := row_len hld
  have hbig : decide (65535 < sx.length) = false := decide_eq_false (by omega)
  refine wc_fn (ss := ss) (T := elf_tab4) tt18 ?_
  simp only [go_sem, ss]
  repeat' (with_reducible (first | refine wp_skip ?_ | refine wp_exit ?_ | refine wp_ret ?_ | refine wp_seq ?_ | refine wp_cond ?_ | refine wp_block ?_ | refine wp_dreg ?_ | refine wp_reg ?_ | simp (maxSteps := 2000000) (disch := first | omega | (simp only [next_new, next_put]; omega) | (simp only [List.length_append, le_len, List.length_cons, List.length_nil, Nat.reduceAdd, Nat.reduceLeDiff]; first | done | omega) | fail) only [go_sem, wr_buildSl, add_small, shr_bin, rem_u, quo_u, wr_cint, oCint_n, wrap_u8, wrap_u64, sub_small, mul_small, leq_n, oIxs_row, Nat.reduceSub, Nat.reduceMul, Nat.reduceLT, Nat.reduceDiv, Nat.reducePow, oMk_row, repeatL, List.replicate, oB2s_row, bytesOf, Bool.false_or, Bool.or_false, Bool.or_self, Bool.or_true, Bool.true_or, oTip, Nat.reduceBEq, Nat.mod_mod, oInt_str, wd_ixa, wr_ixa, oIxa_ep, wd_cint, wd_lens, wrap_i64, len_le, List.length_append, wr_bi, List.map_cons, List.map_nil, sames_sec, oSlstr_hi, x0, hbig]))
  refine wp_loopC (BJ sx ld h) sx.length ?_ ?_
  · refine ⟨0, Nat.zero_le _, rfl, ?_, ?_, ?_, ?_, ?_, Gr.refl _⟩
    all_goals simp (maxSteps := 2000000) (disch := first | omega | (simp only [next_new, next_put]; omega) | (simp only [List.length_append, le_len, List.length_cons, List.length_nil, Nat.reduceAdd, Nat.reduceLeDiff]; first | done | omega) | fail) only [go_sem, wr_buildSl, x0]
    all_goals rfl
  rintro m t h1 ⟨i, hi, rfl, g0, g3, g4, g5, g6, hgr⟩
  have hdl := dataN_len (sx.take i) (fun p hp => (hs.each p (List.mem_of_mem_take hp)).2.1)
  have htl := tabN_len 0 (sx.take i)
  have htk : (sx.take i).length = i := by rw [List.length_take]; omega
  rw [htk] at hdl htl
  by_cases him : i < sx.length
  · have hd : decide (i < sx.length) = true := decide_eq_true him
    obtain ⟨rest, hix⟩ := row_at hld him
    obtain ⟨b1, b2, b3⟩ := hs.each sx[i] (List.getElem_mem him)
    have c1 : wrapQ .u64 (.ofNat (64 + (dataN (sx.take i)).length)) = .ofNat (64 + (dataN (sx.take i)).length) := wrap_u64 (by omega)
    have c2 : wrapQ .u64 (.ofNat sx[i].2.length) = .ofNat sx[i].2.length := wrap_u64 (by omega)
    have c3 : wrapQ .u64 (.ofNat sx[i].1) = .ofNat sx[i].1 := wrap_u64 (by omega)
    repeat' (with_reducible (first | refine wp_skip ?_ | refine wp_exit ?_ | refine wp_ret ?_ | refine wp_seq ?_ | refine wp_cond ?_ | refine wp_block ?_ | refine wp_dreg ?_ | refine wp_reg ?_ | simp (maxSteps := 2000000) (disch := first | omega | (simp only [next_new, next_put]; omega) | (simp only [List.length_append, le_len, List.length_cons, List.length_nil, Nat.reduceAdd, Nat.reduceLeDiff]; first | done | omega) | fail) only [go_sem, wr_buildSl, add_small, shr_bin, rem_u, quo_u, wr_cint, oCint_n, wrap_u8, wrap_u64, sub_small, mul_small, leq_n, oIxs_row, Nat.reduceSub, Nat.reduceMul, Nat.reduceLT, Nat.reduceDiv, Nat.reducePow, oMk_row, repeatL, List.replicate, oB2s_row, bytesOf, Bool.false_or, Bool.or_false, Bool.or_self, Bool.or_true, Bool.true_or, oTip, Nat.reduceBEq, Nat.mod_mod, oInt_str, wd_ixa, wr_ixa, oIxa_ep, wd_cint, wd_lens, wrap_i64, len_le, List.length_append, wr_bi, List.map_cons, List.map_nil, sames_sec, oSlstr_hi, g0, g3, g4, g5, g6, hd, hix, c1, c2, c3]))
    refine wr_call ?_
    simp only [evs_nil, evs_cons, Gt_St, reduceIte]
    refine (nums10_ev _ sx[i].1 (64 + (dataN (sx.take i)).length) sx[i].2.length b1 (by omega) (by omega) _).mono ?_
    rintro d h2 ⟨rfl, hg2⟩
    have hel := entryN_len sx[i].1 (64 + (dataN (sx.take i)).length) sx[i].2.length
    repeat' (with_reducible (first | refine wp_skip ?_ | refine wp_exit ?_ | refine wp_ret ?_ | refine wp_seq ?_ | refine wp_cond ?_ | refine wp_block ?_ | refine wp_dreg ?_ | refine wp_reg ?_ | simp (maxSteps := 2000000) (disch := first | omega | (simp only [next_new, next_put]; omega) | (simp only [List.length_append, le_len, List.length_cons, List.length_nil, Nat.reduceAdd, Nat.reduceLeDiff]; first | done | omega) | fail) only [go_sem, wr_buildSl, add_small, shr_bin, rem_u, quo_u, wr_cint, oCint_n, wrap_u8, wrap_u64, sub_small, mul_small, leq_n, oIxs_row, Nat.reduceSub, Nat.reduceMul, Nat.reduceLT, Nat.reduceDiv, Nat.reducePow, oMk_row, repeatL, List.replicate, oB2s_row, bytesOf, Bool.false_or, Bool.or_false, Bool.or_self, Bool.or_true, Bool.true_or, oTip, Nat.reduceBEq, Nat.mod_mod, oInt_str, wd_ixa, wr_ixa, oIxa_ep, wd_cint, wd_lens, wrap_i64, len_le, List.length_append, wr_bi, List.map_cons, List.map_nil, sames_sec, oSlstr_hi, g0, g3, g4, g5, g6, hd, hix, c1, c2, c3, kloop_n, kloop_e, hel, htl]))
    have e1 : dataN (sx.take (i + 1)) = dataN (sx.take i) ++ sx[i].2 := by rw [take_snoc him, dataN_snoc]
    have e2 : tabN 0 (sx.take (i + 1)) = tabN 0 (sx.take i) ++ entryN sx[i].1 (64 + (dataN (sx.take i)).length) sx[i].2.length := by rw [take_snoc him, tabN_snoc, Nat.zero_add]
    refine ⟨sx.length - (i + 1), by omega, i + 1, by omega, rfl, ?_, ?_, ?_, ?_, ?_, ?_⟩
    rotate_left 5
    · exact hgr.trans ((Gr.new (Gr.refl _) _).trans hg2)
    all_goals try simp (maxSteps := 2000000) (disch := first | omega | (simp only [next_new, next_put]; omega) | (simp only [List.length_append, le_len, List.length_cons, List.length_nil, Nat.reduceAdd, Nat.reduceLeDiff]; first | done | omega) | fail) only [go_sem, wr_buildSl, g0, g3, g4, g5, g6]
    all_goals first | exact g0 | exact g3 | (rw [e1]; done) | (rw [e2]; done)
  · have e : i = sx.length := by omega
    subst e
    have hd : decide (sx.length < sx.length) = false := decide_eq_false (by omega)
    rw [List.take_length] at g4 g5 hdl htl
    have c1 : wrapQ .u64 (.ofNat (64 + (dataN sx).length)) = .ofNat (64 + (dataN sx).length) := wrap_u64 (by omega)
    have c3 : wrapQ .u64 (.ofNat sx.length) = .ofNat sx.length := wrap_u64 (by omega)
    repeat' (with_reducible (first | refine wp_skip ?_ | refine wp_exit ?_ | refine wp_ret ?_ | refine wp_seq ?_ | refine wp_cond ?_ | refine wp_block ?_ | refine wp_dreg ?_ | refine wp_reg ?_ | simp (maxSteps := 2000000) (disch := first | omega | (simp only [next_new, next_put]; omega) | (simp only [List.length_append, le_len, List.length_cons, List.length_nil, Nat.reduceAdd, Nat.reduceLeDiff]; first | done | omega) | fail) only [go_sem, add_small, shr_bin, rem_u, quo_u, wr_cint, oCint_n, wrap_u8, wrap_u64, sub_small, mul_small, leq_n, oIxs_row, Nat.reduceSub, Nat.reduceMul, Nat.reduceLT, Nat.reduceDiv, Nat.reducePow, oMk_row, repeatL, List.replicate, oB2s_row, bytesOf, Bool.false_or, Bool.or_false, Bool.or_self, Bool.or_true, Bool.true_or, oTip, Nat.reduceBEq, Nat.mod_mod, oInt_str, wd_ixa, wr_ixa, oIxa_ep, wd_cint, wd_lens, wrap_i64, len_le, List.length_append, wr_bi, List.map_cons, List.map_nil, sames_sec, oSlstr_hi, g0, g3, g4, g5, g6, hd, c1, c3, kloop_n, kloop_e]))
    rw [wr_buildSl, ffill_cat (by simp (maxSteps := 2000000) (disch := first | omega | (simp only [next_new, next_put]; omega) | (simp only [List.length_append, le_len, List.length_cons, List.length_nil, Nat.reduceAdd, Nat.reduceLeDiff]; first | done | omega) | fail) only [go_sem, wr_buildSl, okFill, add_small, shr_bin, rem_u, quo_u, wr_cint, oCint_n, wrap_u8, wrap_u64, sub_small, mul_small, leq_n, oIxs_row, Nat.reduceSub, Nat.reduceMul, Nat.reduceLT, Nat.reduceDiv, Nat.reducePow, oMk_row, repeatL, List.replicate, oB2s_row, bytesOf, Bool.false_or, Bool.or_false, Bool.or_self, Bool.or_true, Bool.true_or, oTip, Nat.reduceBEq, Nat.mod_mod, oInt_str, wd_ixa, wr_ixa, oIxa_ep, wd_cint, wd_lens, wrap_i64, len_le, List.length_append, wr_bi, List.map_cons, List.map_nil, sames_sec, oSlstr_hi, g0, g3, g4, g5, g6, hd, c1, c3, kloop_n, kloop_e])]
    simp only [catG, Gt_St, reduceIte, cells_agg, List.cons_append, List.nil_append, List.append_nil, kD_eq]
    repeat' (with_reducible (first | refine wp_skip ?_ | refine wp_exit ?_ | refine wp_ret ?_ | refine wp_seq ?_ | refine wp_cond ?_ | refine wp_block ?_ | refine wp_dreg ?_ | refine wp_reg ?_ | simp (maxSteps := 2000000) (disch := first | omega | (simp only [next_new, next_put]; omega) | (simp only [List.length_append, le_len, List.length_cons, List.length_nil, Nat.reduceAdd, Nat.reduceLeDiff]; first | done | omega) | fail) only [go_sem, wr_buildSl, add_small, shr_bin, rem_u, quo_u, wr_cint, oCint_n, wrap_u8, wrap_u64, sub_small, mul_small, leq_n, oIxs_row, Nat.reduceSub, Nat.reduceMul, Nat.reduceLT, Nat.reduceDiv, Nat.reducePow, oMk_row, repeatL, List.replicate, oB2s_row, bytesOf, Bool.false_or, Bool.or_false, Bool.or_self, Bool.or_true, Bool.true_or, oTip, Nat.reduceBEq, Nat.mod_mod, oInt_str, wd_ixa, wr_ixa, oIxa_ep, wd_cint, wd_lens, wrap_i64, len_le, List.length_append, wr_bi, List.map_cons, List.map_nil, sames_sec, oSlstr_hi, g0, g3, g4, g5, g6, hd, c1, c3, kloop_n, kloop_e]))
    refine wr_call ?_
    simp only [evs_nil, evs_cons, Gt_St, reduceIte]
    refine (nums14_ev _ (64 + (dataN sx).length) sx.length (by omega) (by omega) _).mono ?_
    rintro d h2 ⟨rfl, hg2⟩
    have hhl := headR_len (64 + (dataN sx).length) sx.length
    repeat' (with_reducible (first | refine wp_skip ?_ | refine wp_exit ?_ | refine wp_ret ?_ | refine wp_seq ?_ | refine wp_cond ?_ | refine wp_block ?_ | refine wp_dreg ?_ | refine wp_reg ?_ | simp (maxSteps := 2000000) (disch := first | omega | (simp only [next_new, next_put]; omega) | (simp only [List.length_append, le_len, List.length_cons, List.length_nil, Nat.reduceAdd, Nat.reduceLeDiff]; first | done | omega) | fail) only [go_sem, wr_buildSl, add_small, shr_bin, rem_u, quo_u, wr_cint, oCint_n, wrap_u8, wrap_u64, sub_small, mul_small, leq_n, oIxs_row, Nat.reduceSub, Nat.reduceMul, Nat.reduceLT, Nat.reduceDiv, Nat.reducePow, oMk_row, repeatL, List.replicate, oB2s_row, bytesOf, Bool.false_or, Bool.or_false, Bool.or_self, Bool.or_true, Bool.true_or, oTip, Nat.reduceBEq, Nat.mod_mod, oInt_str, wd_ixa, wr_ixa, oIxa_ep, wd_cint, wd_lens, wrap_i64, len_le, List.length_append, wr_bi, List.map_cons, List.map_nil, sames_sec, oSlstr_hi, g0, g3, g4, g5, g6, hd, c1, c3, kloop_n, kloop_e, hhl, htl]))
    exact ⟨by rw [bytesN_R]; simp only [List.append_assoc, List.cons_append, List.nil_append], hgr.trans ((Gr.new (Gr.refl _) _).trans hg2)⟩
def cutS (p : SC) : SC := (p.1, p.2.take 300)
theorem take_min300 (l : List Nat) : l.take (min l.length 300) = l.take 300 := by
  rw [Nat.min_comm, ← List.take_take, List.take_length]
theorem secC_snoc (l : List SC) (p : SC) : secC (l ++ [p]) = secC l ++ [.int .u32 (.ofNat p.1), .str p.2] := by simp [secC]
theorem secC_len (l : List SC) : (secC l).length = l.length * 2 := by
  induction l with
  | nil => rfl
  | cons p r ih => simp only [secC, List.flatMap_cons, List.length_append, List.length_cons, List.length_nil] at ih ⊢; omega
def SI (raw : List SC) (m : Nat) (td : D) (h0 : H) (_ : Tr D) (_ : H) (mm : Nat) (t : Tr D) (h : H) : Prop :=
  ∃ i ka kb da db, i ≤ m ∧ mm = m - i ∧ Gt 12 t = td ∧ Gt 13 t = .int .i64 (.ofNat m) ∧ Gt 14 t = .int .i64 (.ofNat i) ∧ Gt 4 t = da ∧ Gt 5 t = db ∧
    Grow2 h0.next h 47 2 i ka (secC ((raw.map cutS).take i)) da ∧ Grow2 h0.next h 93 2 i kb (secC ((raw.map cutS).take i)) db ∧ (i ≠ 0 → ka ≠ kb) ∧ Gr h0 h
set_option maxRecDepth 100000 in
set_option maxHeartbeats 16000000 in
theorem sections_ev (raw : List SC) (ld : D) (hld : RowD ld raw.length (secC raw)) (h : H) : WC E elf_tab4 13 [ld] h fun d h' => ∃ da db, d = .tup [da, db] ∧
    RowD da (min raw.length 20) (secC ((raw.map cutS).take (min raw.length 20))) ∧ RowD db (min raw.length 20) (secC ((raw.map cutS).take (min raw.length 20))) ∧ Gr h h' := by
  obtain ⟨m, hm⟩ : ∃ m, min raw.length 20 = m := ⟨_, rfl⟩
  have hml : m ≤ raw.length := by omega
  have hm20 : m ≤ 20 := by omega
  rw [hm]
  obtain ⟨td, x1, x2, x3⟩ := row_head hld hml
  have x0 := row_len hld
  refine wc_fn (ss := ss) (T := elf_tab4) tt13 ?_
  simp only [go_sem, ss]
  repeat' (with_reducible (first | refine wp_skip ?_ | refine wp_exit ?_ | refine wp_ret ?_ | refine wp_seq ?_ | refine wp_cond ?_ | refine wp_block ?_ | refine wp_dreg ?_ | refine wp_reg ?_ | simp (maxSteps := 2000000) (disch := first | omega | (simp only [next_new, next_put]; omega) | (simp only [List.length_append, le_len, List.length_cons, List.length_nil, Nat.reduceAdd, Nat.reduceLeDiff]; first | done | omega) | fail) only [go_sem, wr_buildSl, add_small, shr_bin, rem_u, quo_u, wr_cint, oCint_n, wrap_u8, wrap_u64, sub_small, mul_small, leq_n, oIxs_row, Nat.reduceSub, Nat.reduceMul, Nat.reduceLT, Nat.reduceDiv, Nat.reducePow, oMk_row, repeatL, List.replicate, oB2s_row, bytesOf, Bool.false_or, Bool.or_false, Bool.or_self, Bool.or_true, Bool.true_or, oTip, Nat.reduceBEq, Nat.mod_mod, oInt_str, wd_ixa, wr_ixa, oIxa_ep, wd_cint, wd_lens, wrap_i64, len_le, List.length_append, wr_bi, List.map_cons, List.map_nil, sames_sec, oSlstr_hi, minB, hm, x0, x1, x2]))
  refine wp_loopC (SI raw m td h) m ?_ ?_
  · refine ⟨0, 0, 0, _, _, Nat.zero_le _, rfl, ?_, ?_, ?_, rfl, rfl, ?_, ?_, fun h => absurd rfl h, Gr.refl _⟩
    rotate_left 3
    · refine .inl ⟨rfl, ?_, rfl⟩
      simp (maxSteps := 2000000) (disch := first | omega | (simp only [next_new, next_put]; omega) | (simp only [List.length_append, le_len, List.length_cons, List.length_nil, Nat.reduceAdd, Nat.reduceLeDiff]; first | done | omega) | fail) only [go_sem, wr_buildSl, x0, x1, x2]
    · refine .inl ⟨rfl, ?_, rfl⟩
      simp (maxSteps := 2000000) (disch := first | omega | (simp only [next_new, next_put]; omega) | (simp only [List.length_append, le_len, List.length_cons, List.length_nil, Nat.reduceAdd, Nat.reduceLeDiff]; first | done | omega) | fail) only [go_sem, wr_buildSl, x0, x1, x2]
    all_goals simp (maxSteps := 2000000) (disch := first | omega | (simp only [next_new, next_put]; omega) | (simp only [List.length_append, le_len, List.length_cons, List.length_nil, Nat.reduceAdd, Nat.reduceLeDiff]; first | done | omega) | fail) only [go_sem, wr_buildSl, x0, x1, x2]
  rintro mm t h1 ⟨i, ka, kb, da, db, hi, rfl, g12, g13, g14, g4, g5, hGa, hGb, hne, hgr⟩
  by_cases him : i < m
  · have hd : decide (i < m) = true := decide_eq_true him
    obtain ⟨rest, hix⟩ := x3 i him
    have hrl : i < raw.length := by omega
    have hcl : i < (raw.map cutS).length := by rw [List.length_map]; exact hrl
    have e1 : secC ((raw.map cutS).take (i + 1)) = secC ((raw.map cutS).take i) ++ [.int .u32 (.ofNat raw[i].1), .str (raw[i].2.take (min raw[i].2.length 300))] := by
      rw [take_snoc hcl, secC_snoc, List.getElem_map, take_min300]; rfl
    have htl : (secC ((raw.map cutS).take i)).length = i * 2 := by rw [secC_len, List.length_take]; congr 1; omega
    have hmn : min raw[i].2.length 300 ≤ raw[i].2.length := Nat.min_le_left _ _
    by_cases hi0 : i = 0
    · subst hi0
      rcases hGa with ⟨_, rfl, hGa0⟩ | ⟨h0, _⟩
      rotate_left
      · omega
      rcases hGb with ⟨_, rfl, hGb0⟩ | ⟨h0, _⟩
      rotate_left
      · omega
      repeat' (with_reducible (first | refine wp_skip ?_ | refine wp_exit ?_ | refine wp_ret ?_ | refine wp_seq ?_ | refine wp_cond ?_ | refine wp_block ?_ | refine wp_dreg ?_ | refine wp_reg ?_ | simp (maxSteps := 2000000) (disch := first | omega | (simp only [next_new, next_put]; omega) | (simp only [List.length_append, le_len, List.length_cons, List.length_nil, Nat.reduceAdd, Nat.reduceLeDiff]; first | done | omega) | fail) only [go_sem, wr_buildSl, add_small, shr_bin, rem_u, quo_u, wr_cint, oCint_n, wrap_u8, wrap_u64, sub_small, mul_small, leq_n, oIxs_row, Nat.reduceSub, Nat.reduceMul, Nat.reduceLT, Nat.reduceDiv, Nat.reducePow, oMk_row, repeatL, List.replicate, oB2s_row, bytesOf, Bool.false_or, Bool.or_false, Bool.or_self, Bool.or_true, Bool.true_or, oTip, Nat.reduceBEq, Nat.mod_mod, oInt_str, wd_ixa, wr_ixa, oIxa_ep, wd_cint, wd_lens, wrap_i64, len_le, List.length_append, wr_bi, List.map_cons, List.map_nil, sames_sec, oSlstr_hi, minB, g12, g13, g14, g4, g5, hd, hix, hmn, kloop_n, kloop_e]))
      have e1' : secC ((raw.map cutS).take 1) = [.int .u32 (.ofNat raw[0].1), .str (raw[0].2.take (min raw[0].2.length 300))] := e1
      refine ⟨m - 1, by omega, 1, h1.next + 1 + 1, h1.next + 1 + 1 + 1 + 1, _, _, by omega, rfl, ?_, ?_, ?_, rfl, rfl, .inr ⟨by omega, ?_, ?_, by rw [e1']; rfl, by have := hgr.1; omega, by simp only [next_new, next_put]; omega⟩, .inr ⟨by omega, ?_, ?_, by rw [e1']; rfl, by have := hgr.1; omega, by simp only [next_new, next_put]; omega⟩, fun _ => by omega, (hgr.trans ⟨by simp only [next_new, next_put]; omega, fun l hl => by simp (disch := first | omega | (simp only [next_new, next_put]; omega) | fail) only [hget_put_ne, hget_new_ne]⟩)⟩
      all_goals try simp (maxSteps := 2000000) (disch := first | omega | (simp only [next_new, next_put]; omega) | (simp only [List.length_append, le_len, List.length_cons, List.length_nil, Nat.reduceAdd, Nat.reduceLeDiff]; first | done | omega) | fail) only [go_sem, wr_buildSl, e1']
      all_goals first | exact g12 | exact g13 | (rw [e1']; done) | rfl
    · rcases hGa with ⟨h0, _⟩ | ⟨h0, rfl, hA1, hA2, hA3, hA4⟩
      · exact absurd h0 hi0
      rcases hGb with ⟨h0', _⟩ | ⟨h0', rfl, hB1, hB2, hB3, hB4⟩
      · exact absurd h0' hi0
      have hkk := hne hi0
      have hapA : ∀ a b H, oTip (some (.tip i 47)) 47 2 24 ka i 1 (secC ((raw.map cutS).take i)) [a, b] H = .ok (.sl ka (i + 1) (secC ((raw.map cutS).take i) ++ [a, b])) (fput' H ka (.tip (i + 1) 47)) := fun a b H => oTip_ok hA2 (by omega) (by omega)
      have hapB : ∀ a b H, oTip (some (.tip i 93)) 93 2 24 kb i 1 (secC ((raw.map cutS).take i)) [a, b] H = .ok (.sl kb (i + 1) (secC ((raw.map cutS).take i) ++ [a, b])) (fput' H kb (.tip (i + 1) 93)) := fun a b H => oTip_ok hB2 (by omega) (by omega)
      repeat' (with_reducible (first | refine wp_skip ?_ | refine wp_exit ?_ | refine wp_ret ?_ | refine wp_seq ?_ | refine wp_cond ?_ | refine wp_block ?_ | refine wp_dreg ?_ | refine wp_reg ?_ | simp (maxSteps := 2000000) (disch := first | omega | (simp only [next_new, next_put]; omega) | (simp only [List.length_append, le_len, List.length_cons, List.length_nil, Nat.reduceAdd, Nat.reduceLeDiff]; first | done | omega) | fail) only [go_sem, wr_buildSl, add_small, shr_bin, rem_u, quo_u, wr_cint, oCint_n, wrap_u8, wrap_u64, sub_small, mul_small, leq_n, oIxs_row, Nat.reduceSub, Nat.reduceMul, Nat.reduceLT, Nat.reduceDiv, Nat.reducePow, oMk_row, repeatL, List.replicate, oB2s_row, bytesOf, Bool.false_or, Bool.or_false, Bool.or_self, Bool.or_true, Bool.true_or, Nat.reduceBEq, Nat.mod_mod, oInt_str, wd_ixa, wr_ixa, oIxa_ep, wd_cint, wd_lens, wrap_i64, len_le, List.length_append, wr_bi, List.map_cons, List.map_nil, sames_sec, oSlstr_hi, minB, g12, g13, g14, g4, g5, hd, hix, hmn, kloop_n, kloop_e, hA1, hB1, hapA, hapB]))
      refine ⟨m - (i + 1), by omega, i + 1, ka, kb, _, _, by omega, rfl, ?_, ?_, ?_, rfl, rfl, .inr ⟨by omega, ?_, ?_, by rw [e1, List.length_append, htl]; simp only [List.length_cons, List.length_nil]; omega, by have := hgr.1; omega, by simp only [next_new, next_put]; omega⟩, .inr ⟨by omega, ?_, ?_, by rw [e1, List.length_append, htl]; simp only [List.length_cons, List.length_nil]; omega, by have := hgr.1; omega, by simp only [next_new, next_put]; omega⟩, fun _ => hkk, ⟨by have := hgr.1; simp only [next_new, next_put]; omega, fun l hl => by have := hgr.1; rw [← hgr.2 l hl]; simp (disch := first | omega | (simp only [next_new, next_put]; omega) | fail) only [hget_put_ne, hget_new_ne]⟩⟩
      all_goals try simp (maxSteps := 2000000) (disch := first | omega | (simp only [next_new, next_put]; omega) | (simp only [List.length_append, le_len, List.length_cons, List.length_nil, Nat.reduceAdd, Nat.reduceLeDiff]; first | done | omega) | fail) only [go_sem, wr_buildSl, e1]
      all_goals first | exact g12 | exact g13 | (rw [e1]; done) | rfl
  · have e : i = m := by omega
    subst e
    have hd : decide (i < i) = false := decide_eq_false (by omega)
    repeat' (with_reducible (first | refine wp_skip ?_ | refine wp_exit ?_ | refine wp_ret ?_ | refine wp_seq ?_ | refine wp_cond ?_ | refine wp_block ?_ | refine wp_dreg ?_ | refine wp_reg ?_ | simp (maxSteps := 2000000) (disch := first | omega | (simp only [next_new, next_put]; omega) | (simp only [List.length_append, le_len, List.length_cons, List.length_nil, Nat.reduceAdd, Nat.reduceLeDiff]; first | done | omega) | fail) only [go_sem, wr_buildSl, add_small, shr_bin, rem_u, quo_u, wr_cint, oCint_n, wrap_u8, wrap_u64, sub_small, mul_small, leq_n, oIxs_row, Nat.reduceSub, Nat.reduceMul, Nat.reduceLT, Nat.reduceDiv, Nat.reducePow, oMk_row, repeatL, List.replicate, oB2s_row, bytesOf, Bool.false_or, Bool.or_false, Bool.or_self, Bool.or_true, Bool.true_or, oTip, Nat.reduceBEq, Nat.mod_mod, oInt_str, wd_ixa, wr_ixa, oIxa_ep, wd_cint, wd_lens, wrap_i64, len_le, List.length_append, wr_bi, List.map_cons, List.map_nil, sames_sec, oSlstr_hi, minB, g12, g13, g14, g4, g5, hd, kloop_n, kloop_e]))
    refine ⟨da, db, rfl, ?_, ?_, hgr⟩
    · rcases hGa with ⟨h0, h2, h3⟩ | ⟨h0, h2, _⟩
      · exact .inl ⟨h0, h2, h3⟩
      · exact .inr ⟨ka, h2⟩
    · rcases hGb with ⟨h0, h2, h3⟩ | ⟨h0, h2, _⟩
      · exact .inl ⟨h0, h2, h3⟩
      · exact .inr ⟨kb, h2⟩
end Run
end Go.Abs
