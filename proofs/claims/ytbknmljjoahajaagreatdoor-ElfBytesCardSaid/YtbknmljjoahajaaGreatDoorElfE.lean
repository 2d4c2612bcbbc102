/- elf.Bytes, by rules. -/
import Derived.Test.YtbknmljjoahajaaGreatDoorElfD
set_option linter.unusedVariables false
set_option linter.unusedSimpArgs false
namespace Go.Abs
namespace Run
open Go.Proofs
variable {E : Env}
attribute [local go_sem] wr_mv wr_len wr_fa wr_nil wr_ext wr_not wr_ixs wr_sl wr_ld1 wr_ldN wr_st wr_alloc wr_box wr_mkmap wr_int wr_pick wr_build wr_buildSl wr_look wr_mk wr_app wr_sbin wr_fog wr_end wd_mv wd_fa wd_nil wd_ext wd_ixs wd_alloc wd_build wd_buildSl wd_ld1 wd_ldN wd_st wd_mset wd_app wd_int wd_end sO_ok sD_ok sR_ok sL_ok sB_t sB_f sG_t sG_f kseq_n kseq_r kseq_e kblk_n kblk_r kblk_e kfn_n kfn_r sC_ok kc_eq kd_eq oFa_ptr oFa_ep oNil_ptr oNil_ep oLen_sl oLen_row oLen_nil oExt_0 oExt_1 oExt_2 okq_some oNot_bool oSl_nil rc_ptr rc_ep oRd oEp oLd1_some oLdN_some oSt oInt_int oPick_b oBuild_some oBuildSl_some ffill_nil oFill_some ffill patch oFind_some oFind_none oOne_some oTwo_some cfin_one cfin_two wanted_b wanted_u evs_nil evs_cons fargs_nil fargs_cons cells_int cells_str cells_agg cells_sl cells_row cells_map cells_ptr cells_bool cells_nil one_nil one_cons one_int one_str one_sl one_row one_map one_ptr one_bool one_vnil deql dneq dlss dgtr dgeq iEq_n iLt_n iLe beq_dec blt_dec ble_dec mem_nil readOk_nil readOk_rd loudOk_nil loudOk_loud loudOk_none List.drop_succ_cons List.drop_zero List.drop_nil List.take_succ_cons List.take_zero List.take_nil List.length_cons List.length_nil List.cons_append List.nil_append Nat.reduceAdd Nat.reduceEqDiff Nat.reduceLeDiff decide_true decide_false Bool.and_self Bool.and_true Bool.true_and Bool.not_true Bool.not_false cond_true cond_false true_and and_true Gt_St p0_eq kD_eq reduceIte Nat.add_zero Nat.zero_add next_new next_put hget_new_le hget_new_ne hget_put_same hget_put_ne wr_b2s wr_lens wr_slstr oLens_str oB2s_nil kloopu_n kloopu_e kloopu_r oApp_unf oApp_unil oSame_some readOk_loudS loudOk_rdS mem_cons loudT readT sames_one Option.map_some Option.map_none
attribute [local go_sem] tg0 sg0 tg1 sg1 tg2 sg2 tg3 sg3 tg4 sg4 tg5 sg5 tg6 sg6 tg7 sg7 tg8 sg8 tg9 sg9 tg10 sg10 tg11 sg11 tg12 sg12 tg13 sg13 tg14 sg14 tg15 sg15 tg16 sg16 tg17 sg17 tg18 sg18 tg19 sg19 tg20 sg20 tg21 sg21 tg22 sg22 tg23 sg23 tg24 sg24 tg25 sg25 tg26 sg26 tg27 sg27 tg28 sg28 tg29 sg29 tg30 sg30 tg31 sg31 tg32 sg32 tg33 sg33 tg34 sg34 tg35 sg35 tg36 sg36 tg37 sg37 tg38 sg38 tg39 sg39 tg40 sg40 tg41 sg41 tg42 sg42 tg43 sg43 tg44 sg44 tg45 sg45 tg46 sg46 tg47 sg47 tg48 sg48 tg49 sg49 tg50 sg50 tg51 sg51 tg52 sg52 tg53 sg53 tg54 sg54 tg55 sg55 tg56 sg56 tg57 sg57 tg58 sg58 tg59 sg59 tg60 sg60 tg61 sg61 tg62 sg62 tg63 sg63 tg64 sg64 tg65 sg65 tg66 sg66 tg67 sg67 tg68 sg68 tg69 sg69 tg70 sg70 tg71 sg71 tg72 sg72 tg73 sg73 tg74 sg74 tg75 sg75 tg76 sg76 tg77 sg77 tg78 sg78 tg79 sg79 tg80 sg80 tg81 sg81 tg82 sg82 tg83 sg83 tg84 sg84 tg85 sg85 tg86 sg86 tg87 sg87 tg88 sg88 tg89 sg89 tg90 sg90 tg91 sg91 tg92 sg92 tg93 sg93 tg94 sg94 tg95 sg95 tg96 sg96
theorem sames_sec (n : Int) (l : List Nat) : sames [.int .u32 n, .str l] [.int .u32 n, .str l] = true := by
  have h1 := sames_str l
  have h2 := sames_u32 n
  simp only [sames, D.same, Bool.and_true] at h1 h2 ⊢
  simp only [h1, h2, Bool.and_self]
theorem row_head {d : D} {sx : List SC} (hd : RowD d sx.length (secC sx)) {m : Nat} (hm : m ≤ sx.length) : ∃ td, (∀ h, oSl 2 d (.int .i64 (.ofNat m)) h = .ok td h) ∧ (∀ h, oLen td h = .ok (.int .i64 (.ofNat m)) h) ∧
    ∀ i (hi : i < m), ∃ rest, ∀ h, oIxs 2 td (.int .i64 (.ofNat i)) h = .ok (.ep (.int .u32 (.ofNat (sx[i]'(Nat.lt_of_lt_of_le hi hm)).1) :: .str (sx[i]'(Nat.lt_of_lt_of_le hi hm)).2 :: rest)) h := by
  rcases hd with ⟨h0, rfl, hc⟩ | ⟨k, rfl⟩
  · have : m = 0 := by omega
    subst this
    exact ⟨_, fun h => oSl_nil, fun h => oLen_nil, fun i hi => absurd hi (Nat.not_lt_zero i)⟩
  · obtain ⟨id', cs', h1, h2⟩ := headSl_at (size := 2) (id := k) (n := sx.length) (m := m) (cs := secC sx) hm
    refine ⟨.sl id' m cs', fun h => by rw [oSl_sl hm, h1], fun h => oLen_sl, fun i hi => ?_⟩
    obtain ⟨rest, h3⟩ := secC_at (Nat.lt_of_lt_of_le hi hm)
    obtain ⟨rest', h5⟩ := h2 i _ rest h3 rfl hi
    exact ⟨rest', fun h => oIxs_sl hi (by rw [h5]; rfl)⟩
theorem row_len {d : D} {sx : List SC} (hd : RowD d sx.length (secC sx)) (h : H) : oLen d h = .ok (.int .i64 (.ofNat sx.length)) h := by
  rcases hd with ⟨h0, rfl, hc⟩ | ⟨k, rfl⟩
  · rw [h0]; rfl
  · rfl
theorem Bld.but {h h' : H} {l id l2 id2 : Nat} {bs : List Nat} (hb : Bld h l id bs) (hi : id < h.next) (hu : But h h' l2 id2) (h1 : l ≠ l2) (h2 : l ≠ id2) (h3 : id ≠ l2) (h4 : id ≠ id2) : Bld h' l id bs := by
  have e1 := hu.2 l hb.lt h1 h2
  have e2 := hu.2 id hi h3 h4
  refine ⟨Nat.lt_of_lt_of_le hb.lt hu.1, ?_⟩
  rw [e1, e2]
  rcases hb.ob with hx | ⟨a, b, c, d, e⟩
  · exact .inl hx
  · exact .inr ⟨a, b, c, d, Nat.lt_of_lt_of_le e hu.1⟩
theorem Bld.gr {h h' : H} {l id : Nat} {bs : List Nat} (hb : Bld h l id bs) (hi : id < h.next) (hg : Gr h h') : Bld h' l id bs := by
  have e1 := hg.2 l hb.lt
  have e2 := hg.2 id hi
  refine ⟨Nat.lt_of_lt_of_le hb.lt hg.1, ?_⟩
  rw [e1, e2]
  rcases hb.ob with hx | ⟨a, b, c, d, e⟩
  · exact .inl hx
  · exact .inr ⟨a, b, c, d, Nat.lt_of_lt_of_le e hg.1⟩
theorem Gr.but {a h h' : H} {l id : Nat} (hg : Gr a h) (hu : But h h' l id) (h1 : a.next ≤ l) (h2 : a.next ≤ id) : Gr a h' :=
  ⟨Nat.le_trans hg.1 hu.1, fun j hj => (hu.2 j (Nat.lt_of_lt_of_le hj hg.1) (by omega) (by omega)).trans (hg.2 j hj)⟩
theorem wsn_ev (l id : Nat) (bs s : List Nat) (h : H) (hb : Bld h l id bs) (hi : id < h.next) (hl : bs.length + s.length ≤ 1000000) : WC E elf_tab4 45 [.ptr l 0, .str s] h fun d h' => ∃ id', Bld h' l id' (bs ++ s) ∧ (id' = id ∨ h.next ≤ id') ∧ id' < h'.next ∧ But h h' l id := by
  refine (ws_ev l id bs s h hb hl).mono ?_
  rintro d h' ⟨id', h1, h2, h3⟩
  rcases h1.ob with ⟨e, h4⟩ | ⟨a, b, c, d, e⟩
  · exact ⟨id, ⟨h1.lt, .inl ⟨e, h4⟩⟩, .inl rfl, Nat.lt_of_lt_of_le hi h3.1, h3⟩
  · exact ⟨id', h1, h2, e, h3⟩
def BI (sx : List SC) (td : D) (h0 : H) (l : Nat) (_ : Tr D) (_ : H) (m : Nat) (t : Tr D) (h : H) : Prop :=
  ∃ i ia ib, i ≤ sx.length ∧ m = sx.length - i ∧ Gt 0 t = td ∧ Gt 12 t = td ∧ Gt 13 t = .int .i64 (.ofNat sx.length) ∧ Gt 14 t = .int .i64 (.ofNat i) ∧ Gt 3 t = .ptr l 0 ∧ Gt 4 t = .ptr (l + 1) 0 ∧
    Bld h l ia (dataN (sx.take i)) ∧ Bld h (l + 1) ib (tabN 0 (sx.take i)) ∧ (ia ≠ l + 1 ∧ ib ≠ l ∧ ia ≠ ib ∧ ia < h.next ∧ ib < h.next ∧ h0.next ≤ ia ∧ h0.next ≤ ib) ∧ Gr h0 h
theorem headN_len (a b : Nat) : (headN a b).length = 64 := by simp [headN, numsN, le_len, magic]
theorem cut_byte {sx : List SC} (h : SOk sx) (n i : Nat) : (∀ b ∈ dataN (sx.take i), b < 256) := by
  intro b hb
  unfold dataN at hb
  obtain ⟨p, hp, h1⟩ := List.mem_flatMap.1 hb
  exact (h.each p (List.mem_of_mem_take hp)).2.2 b h1
set_option maxHeartbeats 16000000 in
theorem bytes_ev (sx : List SC) (ld : D) (hs : SOk sx) (hld : RowD ld sx.length (secC sx)) (h : H) : WC E elf_tab4 17 [ld] h fun d h' => d = .str (bytesN sx) ∧ Gr h h' := by
  have hn := hs.n
  obtain ⟨td, x1, x2, x3⟩ := row_head hld (Nat.le_refl _)
  have x0 := row_len hld
  have hmin : min sx.length 65535 = sx.length := by omega
  refine wc_fn (ss := ss) (T := elf_tab4) tt17 ?_
  simp only [go_sem, ss]
  repeat' (first | refine wp_skip ?_ | refine wp_exit ?_ | refine wp_ret ?_ | refine wp_seq ?_ | refine wp_cond ?_ | refine wp_block ?_ | refine wp_dreg ?_ | refine wp_reg ?_ | simp (maxSteps := 2000000) (disch := first | omega | (simp only [next_new, next_put]; omega) | (simp only [List.length_append, le_len, List.length_cons, List.length_nil, Nat.reduceAdd, Nat.reduceLeDiff]; first | done | omega) | fail) only [go_sem, add_small, shr_bin, rem_u, quo_u, wr_cint, oCint_n, wrap_u8, wrap_u64, sub_small, mul_small, leq_n, oIxs_row, Nat.reduceSub, Nat.reduceMul, Nat.reduceLT, Nat.reduceDiv, Nat.reducePow, oMk_row, repeatL, List.replicate, oB2s_row, bytesOf, Bool.false_or, Bool.or_false, Bool.or_self, Bool.or_true, Bool.true_or, oTip, Nat.reduceBEq, Nat.mod_mod, oInt_str, wd_ixa, wr_ixa, oIxa_ep, wd_cint, wd_lens, wrap_i64, len_le, List.length_append, wr_bi, List.map_cons, List.map_nil, minB, hmin, x0, x1, x2])
  refine wp_loopC (BI sx td h h.next) sx.length ?_ ?_
  · refine ⟨0, h.next, h.next + 1, Nat.zero_le _, rfl, ?_, ?_, ?_, ?_, ?_, ?_, ?_, ?_, ?_, ?_⟩
    rotate_left 6
    · exact ⟨by simp only [next_new]; omega, .inl ⟨rfl, .inl ((hget_new_ne (by simp only [next_new]; omega)).trans (hget_new_eq rfl))⟩⟩
    · exact ⟨by simp only [next_new]; omega, .inl ⟨rfl, .inl (hget_new_eq rfl)⟩⟩
    · simp only [next_new]; omega
    · exact ((Gr.refl _).new _).new _
    all_goals simp (maxSteps := 2000000) (disch := first | omega | (simp only [next_new, next_put]; omega) | (simp only [List.length_append, le_len, List.length_cons, List.length_nil, Nat.reduceAdd, Nat.reduceLeDiff]; first | done | omega) | fail) only [go_sem, x0, x1, x2]
  rintro m t h1 ⟨i, ia, ib, hi, rfl, g0, g12, g13, g14, g3, g4, hA, hB, ⟨n1, n2, n3, n4, n5, n6, n7⟩, hgr⟩
  have hlt := hA.lt
  have hlt2 := hB.lt
  have hdl := dataN_len (sx.take i) (fun p hp => (hs.each p (List.mem_of_mem_take hp)).2.1)
  have htl := tabN_len 0 (sx.take i)
  have htk : (sx.take i).length = i := by rw [List.length_take]; omega
  rw [htk] at hdl htl
  have hd64 : (dataN (sx.take i)).length ≤ 9223372036854775000 := by omega
  by_cases him : i < sx.length
  · have hd : decide (i < sx.length) = true := decide_eq_true him
    obtain ⟨rest, hix⟩ := x3 i him
    obtain ⟨b1, b2, b3⟩ := hs.each sx[i] (List.getElem_mem him)
    have hgr1 : Gr h1 (fput' (fnew h1 (.cells 47 [.int .u32 (.ofNat 0), .str []])) h1.next (.cells 47 [.int .u32 (.ofNat sx[i].1), .str sx[i].2])) := ((Gr.refl _).new _).put (Nat.le_refl _) _
    have hA1 := hA.gr n4 hgr1
    have hB1 := hB.gr n5 hgr1
    have hgx := hgr.trans hgr1
    repeat' (first | refine wp_skip ?_ | refine wp_exit ?_ | refine wp_ret ?_ | refine wp_seq ?_ | refine wp_cond ?_ | refine wp_block ?_ | refine wp_dreg ?_ | refine wp_reg ?_ | simp (maxSteps := 2000000) (disch := first | omega | (simp only [next_new, next_put]; omega) | (simp only [List.length_append, le_len, List.length_cons, List.length_nil, Nat.reduceAdd, Nat.reduceLeDiff]; first | done | omega) | fail) only [go_sem, add_small, shr_bin, rem_u, quo_u, wr_cint, oCint_n, wrap_u8, wrap_u64, sub_small, mul_small, leq_n, oIxs_row, Nat.reduceSub, Nat.reduceMul, Nat.reduceLT, Nat.reduceDiv, Nat.reducePow, oMk_row, repeatL, List.replicate, oB2s_row, bytesOf, Bool.false_or, Bool.or_false, Bool.or_self, Bool.or_true, Bool.true_or, oTip, Nat.reduceBEq, Nat.mod_mod, oInt_str, wd_ixa, wr_ixa, oIxa_ep, wd_cint, wd_lens, wrap_i64, len_le, List.length_append, g0, g12, g13, g14, g3, g4, hd, hix])
    refine wd_call ?_
    simp only [evs_nil, evs_cons, Gt_St, reduceIte, g3]
    refine (len_ev h.next ia _ _ hA1).mono ?_
    rintro d h2 ⟨rfl, rfl⟩
    generalize hH : fput' (fnew h1 (.cells 47 [.int .u32 (.ofNat 0), .str []])) h1.next (.cells 47 [.int .u32 (.ofNat sx[i].1), .str sx[i].2]) = h2 at *
    have X2 : hget h2.mem h1.next = some (.cells 47 [.int .u32 (.ofNat sx[i].1), .str sx[i].2]) := by rw [← hH]; exact hget_put_eq rfl
    have N2 : h1.next < h2.next := by rw [← hH]; simp only [next_put, next_new]; omega
    repeat' (first | refine wp_skip ?_ | refine wp_exit ?_ | refine wp_ret ?_ | refine wp_seq ?_ | refine wp_cond ?_ | refine wp_block ?_ | refine wp_dreg ?_ | refine wp_reg ?_ | simp (maxSteps := 2000000) (disch := first | omega | (simp only [next_new, next_put]; omega) | (simp only [List.length_append, le_len, List.length_cons, List.length_nil, Nat.reduceAdd, Nat.reduceLeDiff]; first | done | omega) | fail) only [go_sem, add_small, shr_bin, rem_u, quo_u, wr_cint, oCint_n, wrap_u8, wrap_u64, sub_small, mul_small, leq_n, oIxs_row, Nat.reduceSub, Nat.reduceMul, Nat.reduceLT, Nat.reduceDiv, Nat.reducePow, oMk_row, repeatL, List.replicate, oB2s_row, bytesOf, Bool.false_or, Bool.or_false, Bool.or_self, Bool.or_true, Bool.true_or, oTip, Nat.reduceBEq, Nat.mod_mod, oInt_str, wd_ixa, wr_ixa, oIxa_ep, wd_cint, wd_lens, wrap_i64, len_le, List.length_append, g0, g12, g13, g14, g3, g4, hd, hix, X2, sames_sec])
    refine wd_call ?_
    simp only [evs_nil, evs_cons, Gt_St, reduceIte]
    refine (entry_ev sx[i].1 (64 + (dataN (sx.take i)).length) sx[i].2 b1 (by omega) (by omega) _).mono ?_
    rintro d h3 ⟨rfl, hg3⟩
    have X3 := (hg3.2 h1.next N2).trans X2
    have hA3 := hA1.gr (by have := hgr1.1; omega) hg3
    have hB3 := hB1.gr (by have := hgr1.1; omega) hg3
    have N3 := Nat.lt_of_lt_of_le N2 hg3.1
    repeat' (first | refine wp_skip ?_ | refine wp_exit ?_ | refine wp_ret ?_ | refine wp_seq ?_ | refine wp_cond ?_ | refine wp_block ?_ | refine wp_dreg ?_ | refine wp_reg ?_ | simp (maxSteps := 2000000) (disch := first | omega | (simp only [next_new, next_put]; omega) | (simp only [List.length_append, le_len, List.length_cons, List.length_nil, Nat.reduceAdd, Nat.reduceLeDiff]; first | done | omega) | fail) only [go_sem, add_small, shr_bin, rem_u, quo_u, wr_cint, oCint_n, wrap_u8, wrap_u64, sub_small, mul_small, leq_n, oIxs_row, Nat.reduceSub, Nat.reduceMul, Nat.reduceLT, Nat.reduceDiv, Nat.reducePow, oMk_row, repeatL, List.replicate, oB2s_row, bytesOf, Bool.false_or, Bool.or_false, Bool.or_self, Bool.or_true, Bool.true_or, oTip, Nat.reduceBEq, Nat.mod_mod, oInt_str, wd_ixa, wr_ixa, oIxa_ep, wd_cint, wd_lens, wrap_i64, len_le, List.length_append, g0, g12, g13, g14, g3, g4, hd, hix, X2, X3, sames_sec])
    refine wd_call ?_
    simp only [evs_nil, evs_cons, Gt_St, reduceIte, g4]
    refine (wsn_ev (h.next + 1) ib _ _ _ hB3 (by omega) (by rw [htl, entryN_len]; omega)).mono ?_
    rintro d h4 ⟨ib', hB4, hor4, hlt4, hbut4⟩
    have X4 := (hbut4.2 h1.next N3 (by omega) (by omega)).trans X3
    have hA4 := hA3.but (by omega) hbut4 (by omega) (by omega) (by omega) (by omega)
    repeat' (first | refine wp_skip ?_ | refine wp_exit ?_ | refine wp_ret ?_ | refine wp_seq ?_ | refine wp_cond ?_ | refine wp_block ?_ | refine wp_dreg ?_ | refine wp_reg ?_ | simp (maxSteps := 2000000) (disch := first | omega | (simp only [next_new, next_put]; omega) | (simp only [List.length_append, le_len, List.length_cons, List.length_nil, Nat.reduceAdd, Nat.reduceLeDiff]; first | done | omega) | fail) only [go_sem, add_small, shr_bin, rem_u, quo_u, wr_cint, oCint_n, wrap_u8, wrap_u64, sub_small, mul_small, leq_n, oIxs_row, Nat.reduceSub, Nat.reduceMul, Nat.reduceLT, Nat.reduceDiv, Nat.reducePow, oMk_row, repeatL, List.replicate, oB2s_row, bytesOf, Bool.false_or, Bool.or_false, Bool.or_self, Bool.or_true, Bool.true_or, oTip, Nat.reduceBEq, Nat.mod_mod, oInt_str, wd_ixa, wr_ixa, oIxa_ep, wd_cint, wd_lens, wrap_i64, len_le, List.length_append, g0, g12, g13, g14, g3, g4, hd, hix, X2, X3, X4, sames_sec])
    refine wr_call ?_
    simp only [evs_nil, evs_cons, Gt_St, reduceIte, g3]
    refine (wsn_ev h.next ia _ _ _ hA4 (by have := hbut4.1; omega) (by omega)).mono ?_
    rintro d h5 ⟨ia', hA5, hor5, hlt5, hbut5⟩
    have c4 := hbut4.1
    have c5 := hbut5.1
    have hB5 := hB4.but (by omega) hbut5 (by omega) (by omega) (by omega) (by omega)
    repeat' (first | refine wp_skip ?_ | refine wp_exit ?_ | refine wp_ret ?_ | refine wp_seq ?_ | refine wp_cond ?_ | refine wp_block ?_ | refine wp_dreg ?_ | refine wp_reg ?_ | simp (maxSteps := 2000000) (disch := first | omega | (simp only [next_new, next_put]; omega) | (simp only [List.length_append, le_len, List.length_cons, List.length_nil, Nat.reduceAdd, Nat.reduceLeDiff]; first | done | omega) | fail) only [go_sem, add_small, shr_bin, rem_u, quo_u, wr_cint, oCint_n, wrap_u8, wrap_u64, sub_small, mul_small, leq_n, oIxs_row, Nat.reduceSub, Nat.reduceMul, Nat.reduceLT, Nat.reduceDiv, Nat.reducePow, oMk_row, repeatL, List.replicate, oB2s_row, bytesOf, Bool.false_or, Bool.or_false, Bool.or_self, Bool.or_true, Bool.true_or, oTip, Nat.reduceBEq, Nat.mod_mod, oInt_str, wd_ixa, wr_ixa, oIxa_ep, wd_cint, wd_lens, wrap_i64, len_le, List.length_append, g0, g12, g13, g14, g3, g4, hd, hix, kloop_n, kloop_e])
    have e1 : dataN (sx.take (i + 1)) = dataN (sx.take i) ++ sx[i].2 := by rw [take_snoc him, dataN_snoc]
    have e2 : tabN 0 (sx.take (i + 1)) = tabN 0 (sx.take i) ++ entryN sx[i].1 (64 + (dataN (sx.take i)).length) sx[i].2.length := by rw [take_snoc him, tabN_snoc, Nat.zero_add]
    have hgF := Gr.but (Gr.but (Gr.trans hgx hg3) hbut4 (by omega) (by omega)) hbut5 (by omega) (by omega)
    refine ⟨sx.length - (i + 1), by omega, i + 1, ia', ib', by omega, rfl, ?_, ?_, ?_, ?_, ?_, ?_, by rw [e1]; exact hA5, by rw [e2]; exact hB5, ⟨?_, ?_, ?_, ?_, ?_, ?_, ?_⟩, hgF⟩
    rotate_left 6
    · omega
    · omega
    · omega
    · omega
    · omega
    · omega
    · omega
    all_goals simp (maxSteps := 2000000) (disch := first | omega | (simp only [next_new, next_put]; omega) | (simp only [List.length_append, le_len, List.length_cons, List.length_nil, Nat.reduceAdd, Nat.reduceLeDiff]; first | done | omega) | fail) only [go_sem, g0, g12, g13, g14, g3, g4]
    all_goals first | exact g0 | exact g12 | exact g13 | exact g3 | exact g4
  · have e : i = sx.length := by omega
    subst e
    have hd : decide (sx.length < sx.length) = false := decide_eq_false (by omega)
    have hrow : ∀ h, oLen td h = .ok (.int .i64 (.ofNat sx.length)) h := x2
    rw [List.take_length] at hA hB hdl htl hd64
    repeat' (first | refine wp_skip ?_ | refine wp_exit ?_ | refine wp_ret ?_ | refine wp_seq ?_ | refine wp_cond ?_ | refine wp_block ?_ | refine wp_dreg ?_ | refine wp_reg ?_ | simp (maxSteps := 2000000) (disch := first | omega | (simp only [next_new, next_put]; omega) | (simp only [List.length_append, le_len, List.length_cons, List.length_nil, Nat.reduceAdd, Nat.reduceLeDiff]; first | done | omega) | fail) only [go_sem, add_small, shr_bin, rem_u, quo_u, wr_cint, oCint_n, wrap_u8, wrap_u64, sub_small, mul_small, leq_n, oIxs_row, Nat.reduceSub, Nat.reduceMul, Nat.reduceLT, Nat.reduceDiv, Nat.reducePow, oMk_row, repeatL, List.replicate, oB2s_row, bytesOf, Bool.false_or, Bool.or_false, Bool.or_self, Bool.or_true, Bool.true_or, oTip, Nat.reduceBEq, Nat.mod_mod, oInt_str, wd_ixa, wr_ixa, oIxa_ep, wd_cint, wd_lens, wrap_i64, len_le, List.length_append, g0, g12, g13, g14, g3, g4, hd, x2, kloop_n, kloop_e])
    refine wr_call ?_
    simp only [evs_nil, evs_cons, Gt_St, reduceIte, g3]
    refine (len_ev h.next ia _ _ hA).mono ?_
    rintro d h2 ⟨rfl, rfl⟩
    repeat' (first | refine wp_skip ?_ | refine wp_exit ?_ | refine wp_ret ?_ | refine wp_seq ?_ | refine wp_cond ?_ | refine wp_block ?_ | refine wp_dreg ?_ | refine wp_reg ?_ | simp (maxSteps := 2000000) (disch := first | omega | (simp only [next_new, next_put]; omega) | (simp only [List.length_append, le_len, List.length_cons, List.length_nil, Nat.reduceAdd, Nat.reduceLeDiff]; first | done | omega) | fail) only [go_sem, add_small, shr_bin, rem_u, quo_u, wr_cint, oCint_n, wrap_u8, wrap_u64, sub_small, mul_small, leq_n, oIxs_row, Nat.reduceSub, Nat.reduceMul, Nat.reduceLT, Nat.reduceDiv, Nat.reducePow, oMk_row, repeatL, List.replicate, oB2s_row, bytesOf, Bool.false_or, Bool.or_false, Bool.or_self, Bool.or_true, Bool.true_or, oTip, Nat.reduceBEq, Nat.mod_mod, oInt_str, wd_ixa, wr_ixa, oIxa_ep, wd_cint, wd_lens, wrap_i64, len_le, List.length_append, g0, g12, g13, g14, g3, g4, hd, x2, kloop_n, kloop_e])
    refine wr_call ?_
    simp only [evs_nil, evs_cons, Gt_St, reduceIte]
    refine (header_ev (64 + (dataN sx).length) sx.length (by omega) (by omega) _).mono ?_
    rintro d h3 ⟨rfl, hg3⟩
    have hA3 := hA.gr n4 hg3
    have hB3 := hB.gr n5 hg3
    have c3 := hg3.1
    repeat' (first | refine wp_skip ?_ | refine wp_exit ?_ | refine wp_ret ?_ | refine wp_seq ?_ | refine wp_cond ?_ | refine wp_block ?_ | refine wp_dreg ?_ | refine wp_reg ?_ | simp (maxSteps := 2000000) (disch := first | omega | (simp only [next_new, next_put]; omega) | (simp only [List.length_append, le_len, List.length_cons, List.length_nil, Nat.reduceAdd, Nat.reduceLeDiff]; first | done | omega) | fail) only [go_sem, add_small, shr_bin, rem_u, quo_u, wr_cint, oCint_n, wrap_u8, wrap_u64, sub_small, mul_small, leq_n, oIxs_row, Nat.reduceSub, Nat.reduceMul, Nat.reduceLT, Nat.reduceDiv, Nat.reducePow, oMk_row, repeatL, List.replicate, oB2s_row, bytesOf, Bool.false_or, Bool.or_false, Bool.or_self, Bool.or_true, Bool.true_or, oTip, Nat.reduceBEq, Nat.mod_mod, oInt_str, wd_ixa, wr_ixa, oIxa_ep, wd_cint, wd_lens, wrap_i64, len_le, List.length_append, g0, g12, g13, g14, g3, g4, hd, x2, kloop_n, kloop_e])
    refine wr_call ?_
    simp only [evs_nil, evs_cons, Gt_St, reduceIte, g3]
    refine (str_ev h.next ia _ _ hA3 (dataN_byte hs)).mono ?_
    rintro d h4 ⟨rfl, q1, q2⟩
    have hu4 : But h3 h4 ia ia := ⟨by omega, fun j _ hj _ => q2 j (fun _ => hj)⟩
    have hB4 := hB3.but (by omega) hu4 (by omega) (by omega) (by omega) (by omega)
    have hg4 := Gr.but (Gr.trans hgr hg3) hu4 (by omega) (by omega)
    have hHL := headN_len (64 + (dataN sx).length) sx.length
    repeat' (first | refine wp_skip ?_ | refine wp_exit ?_ | refine wp_ret ?_ | refine wp_seq ?_ | refine wp_cond ?_ | refine wp_block ?_ | refine wp_dreg ?_ | refine wp_reg ?_ | simp (maxSteps := 2000000) (disch := first | omega | (simp only [next_new, next_put]; omega) | (simp only [List.length_append, le_len, List.length_cons, List.length_nil, Nat.reduceAdd, Nat.reduceLeDiff]; first | done | omega) | fail) only [go_sem, add_small, shr_bin, rem_u, quo_u, wr_cint, oCint_n, wrap_u8, wrap_u64, sub_small, mul_small, leq_n, oIxs_row, Nat.reduceSub, Nat.reduceMul, Nat.reduceLT, Nat.reduceDiv, Nat.reducePow, oMk_row, repeatL, List.replicate, oB2s_row, bytesOf, Bool.false_or, Bool.or_false, Bool.or_self, Bool.or_true, Bool.true_or, oTip, Nat.reduceBEq, Nat.mod_mod, oInt_str, wd_ixa, wr_ixa, oIxa_ep, wd_cint, wd_lens, wrap_i64, len_le, List.length_append, g0, g12, g13, g14, g3, g4, hd, x2, kloop_n, kloop_e])
    refine wr_call ?_
    simp only [evs_nil, evs_cons, Gt_St, reduceIte, g4]
    refine (str_ev (h.next + 1) ib _ _ hB4 (tabN_byte 0 sx)).mono ?_
    rintro d h5 ⟨rfl, q3, q4⟩
    have hu5 : But h4 h5 ib ib := ⟨by omega, fun j _ hj _ => q4 j (fun _ => hj)⟩
    have hg5 := Gr.but hg4 hu5 (by omega) (by omega)
    repeat' (first | refine wp_skip ?_ | refine wp_exit ?_ | refine wp_ret ?_ | refine wp_seq ?_ | refine wp_cond ?_ | refine wp_block ?_ | refine wp_dreg ?_ | refine wp_reg ?_ | simp (maxSteps := 2000000) (disch := first | omega | (simp only [next_new, next_put]; omega) | (simp only [List.length_append, le_len, List.length_cons, List.length_nil, Nat.reduceAdd, Nat.reduceLeDiff]; first | done | omega) | fail) only [go_sem, add_small, shr_bin, rem_u, quo_u, wr_cint, oCint_n, wrap_u8, wrap_u64, sub_small, mul_small, leq_n, oIxs_row, Nat.reduceSub, Nat.reduceMul, Nat.reduceLT, Nat.reduceDiv, Nat.reducePow, oMk_row, repeatL, List.replicate, oB2s_row, bytesOf, Bool.false_or, Bool.or_false, Bool.or_self, Bool.or_true, Bool.true_or, oTip, Nat.reduceBEq, Nat.mod_mod, oInt_str, wd_ixa, wr_ixa, oIxa_ep, wd_cint, wd_lens, wrap_i64, len_le, List.length_append, g0, g12, g13, g14, g3, g4, hd, x2, kloop_n, kloop_e])
    exact ⟨rfl, hg5⟩
end Run
end Go.Abs
