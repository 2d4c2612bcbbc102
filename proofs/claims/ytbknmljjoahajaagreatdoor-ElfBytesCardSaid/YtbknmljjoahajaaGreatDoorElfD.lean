/- A strings.Builder, by rules. -/
import Derived.Test.YtbknmljjoahajaaGreatDoorElfB
set_option linter.unusedVariables false
set_option linter.unusedSimpArgs false
namespace Go.Abs
namespace Run
open Go.Proofs
variable {E : Env}
attribute [local go_sem] wr_mv wr_len wr_fa wr_nil wr_ext wr_not wr_ixs wr_sl wr_ld1 wr_ldN wr_st wr_alloc wr_box wr_mkmap wr_int wr_pick wr_build wr_buildSl wr_look wr_mk wr_app wr_sbin wr_fog wr_end wd_mv wd_fa wd_nil wd_ext wd_ixs wd_alloc wd_build wd_buildSl wd_ld1 wd_ldN wd_st wd_mset wd_app wd_int wd_end sO_ok sD_ok sR_ok sL_ok sB_t sB_f sG_t sG_f kseq_n kseq_r kseq_e kblk_n kblk_r kblk_e kfn_n kfn_r sC_ok kc_eq kd_eq oFa_ptr oFa_ep oNil_ptr oNil_ep oLen_sl oLen_row oLen_nil oExt_0 oExt_1 oExt_2 okq_some oNot_bool oSl_nil rc_ptr rc_ep oRd oEp oLd1_some oLdN_some oSt oInt_int oPick_b oBuild_some oBuildSl_some ffill_nil oFill_some ffill patch oFind_some oFind_none oOne_some oTwo_some cfin_one cfin_two wanted_b wanted_u evs_nil evs_cons fargs_nil fargs_cons cells_int cells_str cells_agg cells_sl cells_row cells_map cells_ptr cells_bool cells_nil one_nil one_cons one_int one_str one_sl one_row one_map one_ptr one_bool one_vnil deql dneq dlss dgtr dgeq iEq_n iLt_n iLe beq_dec blt_dec ble_dec mem_nil readOk_nil readOk_rd loudOk_nil loudOk_loud loudOk_none List.drop_succ_cons List.drop_zero List.drop_nil List.take_succ_cons List.take_zero List.take_nil List.length_cons List.length_nil List.cons_append List.nil_append Nat.reduceAdd Nat.reduceEqDiff Nat.reduceLeDiff decide_true decide_false Bool.and_self Bool.and_true Bool.true_and Bool.not_true Bool.not_false cond_true cond_false true_and and_true Gt_St p0_eq kD_eq reduceIte Nat.add_zero Nat.zero_add next_new next_put hget_new_le hget_new_ne hget_put_same hget_put_ne wr_b2s wr_lens wr_slstr oLens_str oB2s_nil kloopu_n kloopu_e kloopu_r oApp_unf oApp_unil oSame_some readOk_loudS loudOk_rdS mem_cons loudT readT sames_one Option.map_some Option.map_none add_small shr_bin rem_u quo_u wr_cint oCint_n wrap_u8 wrap_u64 sub_small mul_small leq_n oIxs_row Nat.reduceSub Nat.reduceMul Nat.reduceLT Nat.reduceDiv Nat.reducePow oMk_row repeatL List.replicate oB2s_row bytesOf Bool.false_or Bool.or_false Bool.or_self Bool.or_true Bool.true_or oTip Nat.reduceBEq Nat.mod_mod oInt_str wd_ixa wr_ixa oIxa_ep wd_cint wd_lens wrap_i64 len_le List.length_append
attribute [local go_sem] tg0 sg0 tg1 sg1 tg2 sg2 tg3 sg3 tg4 sg4 tg5 sg5 tg6 sg6 tg7 sg7 tg8 sg8 tg9 sg9 tg10 sg10 tg11 sg11 tg12 sg12 tg13 sg13 tg14 sg14 tg15 sg15 tg16 sg16 tg17 sg17 tg18 sg18 tg19 sg19 tg20 sg20 tg21 sg21 tg22 sg22 tg23 sg23 tg24 sg24 tg25 sg25 tg26 sg26 tg27 sg27 tg28 sg28 tg29 sg29 tg30 sg30 tg31 sg31 tg32 sg32 tg33 sg33 tg34 sg34 tg35 sg35 tg36 sg36 tg37 sg37 tg38 sg38 tg39 sg39 tg40 sg40 tg41 sg41 tg42 sg42 tg43 sg43 tg44 sg44 tg45 sg45 tg46 sg46 tg47 sg47 tg48 sg48 tg49 sg49 tg50 sg50 tg51 sg51 tg52 sg52 tg53 sg53 tg54 sg54 tg55 sg55 tg56 sg56 tg57 sg57 tg58 sg58 tg59 sg59 tg60 sg60 tg61 sg61 tg62 sg62 tg63 sg63 tg64 sg64 tg65 sg65 tg66 sg66 tg67 sg67 tg68 sg68 tg69 sg69 tg70 sg70 tg71 sg71 tg72 sg72 tg73 sg73 tg74 sg74 tg75 sg75 tg76 sg76 tg77 sg77 tg78 sg78 tg79 sg79 tg80 sg80 tg81 sg81 tg82 sg82 tg83 sg83 tg84 sg84 tg85 sg85 tg86 sg86 tg87 sg87 tg88 sg88 tg89 sg89 tg90 sg90 tg91 sg91 tg92 sg92 tg93 sg93 tg94 sg94 tg95 sg95 tg96 sg96
/-- A builder that holds these bytes. -/
structure Bld (h : H) (l id : Nat) (bs : List Nat) : Prop where
  lt : l < h.next
  ob : (bs = [] ∧ (hget h.mem l = some (.cells 96 [.v (.pointer none), .v (.slice none 0 0)]) ∨ hget h.mem l = some (.cells 96 [.ptr l 0, .v (.slice none 0 0)]))) ∨
    (bs ≠ [] ∧ hget h.mem l = some (.cells 96 [.ptr l 0, .sl id bs.length (bytesD bs)]) ∧ hget h.mem id = some (.tip bs.length 5) ∧ id ≠ l ∧ id < h.next)
/-- All else is as it was. -/
def But (h h' : H) (l id : Nat) : Prop := h.next ≤ h'.next ∧ ∀ j, j < h.next → j ≠ l → j ≠ id → hget h'.mem j = hget h.mem j
theorem bytesD_app (a b : List Nat) : bytesD (a ++ b) = bytesD a ++ bytesD b := by simp [bytesD]
theorem bytesD_len (a : List Nat) : (bytesD a).length = a.length := by simp [bytesD]
theorem len_ev (l id : Nat) (bs : List Nat) (h : H) (hb : Bld h l id bs) : WC E elf_tab4 47 [.ptr l 0] h fun d h' => d = .int .i64 (.ofNat bs.length) ∧ h' = h := by
  rcases hb.ob with ⟨rfl, h1 | h1⟩ | ⟨h0, h1, h2, h3, h4⟩
  · skip
    refine wc_fn (ss := ss) (T := elf_tab4) tt47 ?_
    simp only [go_sem, ss]
    repeat' (first | refine wp_skip ?_ | refine wp_exit ?_ | refine wp_ret ?_ | refine wp_seq ?_ | refine wp_cond ?_ | refine wp_block ?_ | refine wp_dreg ?_ | refine wp_reg ?_ | simp (maxSteps := 2000000) (disch := first | omega | (simp only [next_new, next_put]; omega) | (simp only [List.length_append, le_len, List.length_cons, List.length_nil, Nat.reduceAdd, Nat.reduceLeDiff]; first | done | omega) | fail) only [go_sem, h1])
  · skip
    refine wc_fn (ss := ss) (T := elf_tab4) tt47 ?_
    simp only [go_sem, ss]
    repeat' (first | refine wp_skip ?_ | refine wp_exit ?_ | refine wp_ret ?_ | refine wp_seq ?_ | refine wp_cond ?_ | refine wp_block ?_ | refine wp_dreg ?_ | refine wp_reg ?_ | simp (maxSteps := 2000000) (disch := first | omega | (simp only [next_new, next_put]; omega) | (simp only [List.length_append, le_len, List.length_cons, List.length_nil, Nat.reduceAdd, Nat.reduceLeDiff]; first | done | omega) | fail) only [go_sem, h1])
  · skip
    refine wc_fn (ss := ss) (T := elf_tab4) tt47 ?_
    simp only [go_sem, ss]
    repeat' (first | refine wp_skip ?_ | refine wp_exit ?_ | refine wp_ret ?_ | refine wp_seq ?_ | refine wp_cond ?_ | refine wp_block ?_ | refine wp_dreg ?_ | refine wp_reg ?_ | simp (maxSteps := 2000000) (disch := first | omega | (simp only [next_new, next_put]; omega) | (simp only [List.length_append, le_len, List.length_cons, List.length_nil, Nat.reduceAdd, Nat.reduceLeDiff]; first | done | omega) | fail) only [go_sem, h1])
theorem check_fresh (l : Nat) (y : D) (h : H) (hb : hget h.mem l = some (.cells 96 [.v (.pointer none), y])) : WC E elf_tab4 84 [.ptr l 0] h fun d h' => d = .tup [] ∧ h' = fput' h l (.cells 96 [.ptr l 0, y]) := by
  refine wc_lib tt84 ?_
  rw [hget_eq] at hb
  simp only [libCheck, hb, Nat.beq_refl, cond_true, sC_ok, fput'_eq, and_self]
theorem check_used (l : Nat) (y : D) (h : H) (hb : hget h.mem l = some (.cells 96 [.ptr l 0, y])) : WC E elf_tab4 84 [.ptr l 0] h fun d h' => d = .tup [] ∧ h' = h := by
  refine wc_lib tt84 ?_
  rw [hget_eq] at hb
  simp only [libCheck, hb, Nat.beq_refl, cond_true, sC_ok, and_self]
section
variable {T : Nat → FFn} {t : Tr D} {h : H} {Q : Aft} {p : D → Tr D → Tr D} {k : FR} {g1 g2 : Tr D → D}
def oApps (e : TypeId) (s x : D) (h : H) : O D := appendsD h e s x
theorem wr_apps {e : TypeId} : WR E T (fo (u2 (r_apps e) g1 g2) p k) t h Q ↔ sO E T (oApps e (g1 t) (g2 t) h) p k t Q := wr_fo fun _ => rfl
theorem apps_nil0 {e : TypeId} : oApps e (.v (.slice none 0 0)) (.str []) h = .ok (.v (.slice none 0 0)) h := rfl
theorem apps_sl0 {e : TypeId} {id n : Nat} {cs : List D} : oApps e (.sl id n cs) (.str []) h = .ok (.sl id n cs) h := rfl
theorem apps_nil {e : TypeId} {bs : List Nat} (h0 : bs ≠ []) (hl : bs.length ≤ 140737488355328) : oApps e (.v (.slice none 0 0)) (.str bs) h = .ok (.sl h.next bs.length (bytesD bs)) (fnew h (.tip bs.length e)) := by
  have hb : Nat.beq bs.length 0 = false := by
    cases bs with
    | nil => exact absurd rfl h0
    | cons a r => rfl
  simp only [oApps, appendsD, hb, cond_false, ble_of hl, cond_true, fnew_eq]
theorem apps_sl {e : TypeId} {id n : Nat} {cs : List D} {bs : List Nat} (h0 : bs ≠ []) (hm : hget h.mem id = some (.tip n e)) (hc : cs.length = n) (hl : n + bs.length ≤ 140737488355328) :
    oApps e (.sl id n cs) (.str bs) h = .ok (.sl id (n + bs.length) (cs ++ bytesD bs)) (fput' h id (.tip (n + bs.length) e)) := by
  have hb : Nat.beq bs.length 0 = false := by
    cases bs with
    | nil => exact absurd rfl h0
    | cons a r => rfl
  rw [hget_eq] at hm
  simp only [oApps, appendsD, hb, cond_false, hm, hc, Nat.beq_refl, Bool.and_self, ble_of hl, cond_true, fput'_eq]
end
set_option maxHeartbeats 16000000 in
theorem ws_ev (l id : Nat) (bs s : List Nat) (h : H) (hb : Bld h l id bs) (hl : bs.length + s.length ≤ 1000000) : WC E elf_tab4 45 [.ptr l 0, .str s] h fun d h' => ∃ id', Bld h' l id' (bs ++ s) ∧ (id' = id ∨ h.next ≤ id') ∧ But h h' l id := by
  by_cases h0 : s = []
  · subst h0
    rw [List.append_nil]
    rcases hb.ob with ⟨rfl, h1 | h1⟩ | ⟨hne, h1, h2, h3, h4⟩
    · skip
      refine wc_fn (ss := ss) (T := elf_tab4) tt45 ?_
      simp only [go_sem, ss]
      repeat' (first | refine wp_skip ?_ | refine wp_exit ?_ | refine wp_ret ?_ | refine wp_seq ?_ | refine wp_cond ?_ | refine wp_block ?_ | refine wp_dreg ?_ | refine wp_reg ?_ | simp (maxSteps := 2000000) (disch := first | omega | (simp only [next_new, next_put]; omega) | (simp only [List.length_append, le_len, List.length_cons, List.length_nil, Nat.reduceAdd, Nat.reduceLeDiff]; first | done | omega) | fail) only [go_sem, wr_apps, apps_nil0, apps_sl0])
      refine wr_call ?_
      simp only [evs_nil, evs_cons, Gt_St, reduceIte]
      refine (check_fresh l _ h h1).mono ?_
      rintro d hq ⟨rfl, rfl⟩
      have X : hget (fput' h l (.cells 96 [.ptr l 0, .v (.slice none 0 0)])).mem l = some (.cells 96 [.ptr l 0, .v (.slice none 0 0)]) := hget_put_eq rfl
      repeat' (first | refine wp_skip ?_ | refine wp_exit ?_ | refine wp_ret ?_ | refine wp_seq ?_ | refine wp_cond ?_ | refine wp_block ?_ | refine wp_dreg ?_ | refine wp_reg ?_ | simp (maxSteps := 2000000) (disch := first | omega | (simp only [next_new, next_put]; omega) | (simp only [List.length_append, le_len, List.length_cons, List.length_nil, Nat.reduceAdd, Nat.reduceLeDiff]; first | done | omega) | fail) only [go_sem, wr_apps, apps_nil0, apps_sl0, X])
      exact ⟨id, ⟨hb.lt, .inl ⟨rfl, .inr (hget_put_eq rfl)⟩⟩, .inl rfl, Nat.le_refl _, fun j _ hj _ => by rw [hget_put_ne hj, hget_put_ne hj]⟩
    · skip
      refine wc_fn (ss := ss) (T := elf_tab4) tt45 ?_
      simp only [go_sem, ss]
      repeat' (first | refine wp_skip ?_ | refine wp_exit ?_ | refine wp_ret ?_ | refine wp_seq ?_ | refine wp_cond ?_ | refine wp_block ?_ | refine wp_dreg ?_ | refine wp_reg ?_ | simp (maxSteps := 2000000) (disch := first | omega | (simp only [next_new, next_put]; omega) | (simp only [List.length_append, le_len, List.length_cons, List.length_nil, Nat.reduceAdd, Nat.reduceLeDiff]; first | done | omega) | fail) only [go_sem, wr_apps, apps_nil0, apps_sl0])
      refine wr_call ?_
      simp only [evs_nil, evs_cons, Gt_St, reduceIte]
      refine (check_used l _ h h1).mono ?_
      rintro d hq ⟨rfl, rfl⟩
      have X := h1
      repeat' (first | refine wp_skip ?_ | refine wp_exit ?_ | refine wp_ret ?_ | refine wp_seq ?_ | refine wp_cond ?_ | refine wp_block ?_ | refine wp_dreg ?_ | refine wp_reg ?_ | simp (maxSteps := 2000000) (disch := first | omega | (simp only [next_new, next_put]; omega) | (simp only [List.length_append, le_len, List.length_cons, List.length_nil, Nat.reduceAdd, Nat.reduceLeDiff]; first | done | omega) | fail) only [go_sem, wr_apps, apps_nil0, apps_sl0, X])
      exact ⟨id, ⟨hb.lt, .inl ⟨rfl, .inr (hget_put_eq rfl)⟩⟩, .inl rfl, Nat.le_refl _, fun j _ hj _ => by rw [hget_put_ne hj]⟩
    · skip
      refine wc_fn (ss := ss) (T := elf_tab4) tt45 ?_
      simp only [go_sem, ss]
      repeat' (first | refine wp_skip ?_ | refine wp_exit ?_ | refine wp_ret ?_ | refine wp_seq ?_ | refine wp_cond ?_ | refine wp_block ?_ | refine wp_dreg ?_ | refine wp_reg ?_ | simp (maxSteps := 2000000) (disch := first | omega | (simp only [next_new, next_put]; omega) | (simp only [List.length_append, le_len, List.length_cons, List.length_nil, Nat.reduceAdd, Nat.reduceLeDiff]; first | done | omega) | fail) only [go_sem, wr_apps, apps_nil0, apps_sl0])
      refine wr_call ?_
      simp only [evs_nil, evs_cons, Gt_St, reduceIte]
      refine (check_used l _ h h1).mono ?_
      rintro d hq ⟨rfl, rfl⟩
      have X := h1
      repeat' (first | refine wp_skip ?_ | refine wp_exit ?_ | refine wp_ret ?_ | refine wp_seq ?_ | refine wp_cond ?_ | refine wp_block ?_ | refine wp_dreg ?_ | refine wp_reg ?_ | simp (maxSteps := 2000000) (disch := first | omega | (simp only [next_new, next_put]; omega) | (simp only [List.length_append, le_len, List.length_cons, List.length_nil, Nat.reduceAdd, Nat.reduceLeDiff]; first | done | omega) | fail) only [go_sem, wr_apps, apps_nil0, apps_sl0, X])
      exact ⟨id, ⟨hb.lt, .inr ⟨hne, hget_put_eq rfl, by rw [hget_put_ne h3]; exact h2, h3, h4⟩⟩, .inl rfl, Nat.le_refl _, fun j _ hj _ => by rw [hget_put_ne hj]⟩
  · rcases hb.ob with ⟨rfl, h1 | h1⟩ | ⟨hne, h1, h2, h3, h4⟩
    · skip
      refine wc_fn (ss := ss) (T := elf_tab4) tt45 ?_
      simp only [go_sem, ss]
      repeat' (first | refine wp_skip ?_ | refine wp_exit ?_ | refine wp_ret ?_ | refine wp_seq ?_ | refine wp_cond ?_ | refine wp_block ?_ | refine wp_dreg ?_ | refine wp_reg ?_ | simp (maxSteps := 2000000) (disch := first | omega | (simp only [next_new, next_put]; omega) | (simp only [List.length_append, le_len, List.length_cons, List.length_nil, Nat.reduceAdd, Nat.reduceLeDiff]; first | done | omega) | fail) only [go_sem, wr_apps, apps_nil0, apps_sl0])
      refine wr_call ?_
      simp only [evs_nil, evs_cons, Gt_St, reduceIte]
      refine (check_fresh l _ h h1).mono ?_
      rintro d hq ⟨rfl, rfl⟩
      have X : hget (fput' h l (.cells 96 [.ptr l 0, .v (.slice none 0 0)])).mem l = some (.cells 96 [.ptr l 0, .v (.slice none 0 0)]) := hget_put_eq rfl
      have A : ∀ H : H, oApps 5 (.v (.slice none 0 0)) (.str s) H = .ok (.sl H.next s.length (bytesD s)) (fnew H (.tip s.length 5)) := fun H => apps_nil h0 (by omega)
      have Y : hget (fnew (fput' h l (.cells 96 [.ptr l 0, .v (.slice none 0 0)])) (.tip s.length 5)).mem l = some (.cells 96 [.ptr l 0, .v (.slice none 0 0)]) := (hget_new_ne (by simp only [next_put]; exact Nat.ne_of_lt hb.lt)).trans X
      repeat' (first | refine wp_skip ?_ | refine wp_exit ?_ | refine wp_ret ?_ | refine wp_seq ?_ | refine wp_cond ?_ | refine wp_block ?_ | refine wp_dreg ?_ | refine wp_reg ?_ | simp (maxSteps := 2000000) (disch := first | omega | (simp only [next_new, next_put]; omega) | (simp only [List.length_append, le_len, List.length_cons, List.length_nil, Nat.reduceAdd, Nat.reduceLeDiff]; first | done | omega) | fail) only [go_sem, wr_apps, apps_nil0, apps_sl0, X, A, Y])
      exact ⟨h.next, ⟨by simp only [next_put, next_new]; have := hb.lt; omega, .inr ⟨h0, hget_put_eq rfl, by rw [hget_put_ne (Nat.ne_of_gt hb.lt)]; exact hget_new_eq rfl, Nat.ne_of_gt hb.lt, by simp only [next_put, next_new]; omega⟩⟩, .inr (Nat.le_refl _), by simp only [next_put, next_new]; omega, fun j hlt hj _ => by rw [hget_put_ne hj, hget_new_ne (by simp only [next_put]; omega), hget_put_ne hj]⟩
    · skip
      refine wc_fn (ss := ss) (T := elf_tab4) tt45 ?_
      simp only [go_sem, ss]
      repeat' (first | refine wp_skip ?_ | refine wp_exit ?_ | refine wp_ret ?_ | refine wp_seq ?_ | refine wp_cond ?_ | refine wp_block ?_ | refine wp_dreg ?_ | refine wp_reg ?_ | simp (maxSteps := 2000000) (disch := first | omega | (simp only [next_new, next_put]; omega) | (simp only [List.length_append, le_len, List.length_cons, List.length_nil, Nat.reduceAdd, Nat.reduceLeDiff]; first | done | omega) | fail) only [go_sem, wr_apps, apps_nil0, apps_sl0])
      refine wr_call ?_
      simp only [evs_nil, evs_cons, Gt_St, reduceIte]
      refine (check_used l _ h h1).mono ?_
      rintro d hq ⟨rfl, rfl⟩
      have X := h1
      have A : ∀ H : H, oApps 5 (.v (.slice none 0 0)) (.str s) H = .ok (.sl H.next s.length (bytesD s)) (fnew H (.tip s.length 5)) := fun H => apps_nil h0 (by omega)
      have Y := fun o => (hget_new_ne (o := o) (Nat.ne_of_lt hb.lt)).trans X
      repeat' (first | refine wp_skip ?_ | refine wp_exit ?_ | refine wp_ret ?_ | refine wp_seq ?_ | refine wp_cond ?_ | refine wp_block ?_ | refine wp_dreg ?_ | refine wp_reg ?_ | simp (maxSteps := 2000000) (disch := first | omega | (simp only [next_new, next_put]; omega) | (simp only [List.length_append, le_len, List.length_cons, List.length_nil, Nat.reduceAdd, Nat.reduceLeDiff]; first | done | omega) | fail) only [go_sem, wr_apps, apps_nil0, apps_sl0, X, A, Y])
      exact ⟨_, ⟨by simp only [next_put, next_new]; have := hb.lt; omega, .inr ⟨h0, hget_put_eq rfl, by rw [hget_put_ne (Nat.ne_of_gt hb.lt)]; exact hget_new_eq rfl, Nat.ne_of_gt hb.lt, by simp only [next_put, next_new]; omega⟩⟩, .inr (Nat.le_refl _), by simp only [next_put, next_new]; omega, fun j hlt hj _ => by rw [hget_put_ne hj, hget_new_ne (by omega)]⟩
    · skip
      refine wc_fn (ss := ss) (T := elf_tab4) tt45 ?_
      simp only [go_sem, ss]
      repeat' (first | refine wp_skip ?_ | refine wp_exit ?_ | refine wp_ret ?_ | refine wp_seq ?_ | refine wp_cond ?_ | refine wp_block ?_ | refine wp_dreg ?_ | refine wp_reg ?_ | simp (maxSteps := 2000000) (disch := first | omega | (simp only [next_new, next_put]; omega) | (simp only [List.length_append, le_len, List.length_cons, List.length_nil, Nat.reduceAdd, Nat.reduceLeDiff]; first | done | omega) | fail) only [go_sem, wr_apps, apps_nil0, apps_sl0])
      refine wr_call ?_
      simp only [evs_nil, evs_cons, Gt_St, reduceIte]
      refine (check_used l _ h h1).mono ?_
      rintro d hq ⟨rfl, rfl⟩
      have X := h1
      have A := apps_sl (e := 5) h0 h2 (bytesD_len bs) (by omega)
      have Y := X
      repeat' (first | refine wp_skip ?_ | refine wp_exit ?_ | refine wp_ret ?_ | refine wp_seq ?_ | refine wp_cond ?_ | refine wp_block ?_ | refine wp_dreg ?_ | refine wp_reg ?_ | simp (maxSteps := 2000000) (disch := first | omega | (simp only [next_new, next_put]; omega) | (simp only [List.length_append, le_len, List.length_cons, List.length_nil, Nat.reduceAdd, Nat.reduceLeDiff]; first | done | omega) | fail) only [go_sem, wr_apps, apps_nil0, apps_sl0, X, A, Y])
      exact ⟨id, ⟨hb.lt, .inr ⟨by simp [hne], by rw [hget_put_eq rfl, bytesD_app, List.length_append], by rw [hget_put_ne h3, hget_put_eq rfl, List.length_append], h3, h4⟩⟩, .inl rfl, Nat.le_refl _, fun j _ hj hi => by rw [hget_put_ne hj, hget_put_ne hi]⟩
theorem bytesOf_D : ∀ bs : List Nat, (∀ b ∈ bs, b < 256) → bytesOf (bytesD bs) = some bs
  | [], _ => rfl
  | b :: r, h => by
    have h1 : Nat.blt b 256 = true := by rw [Nat.blt_eq]; exact h b (List.mem_cons_self ..)
    have h2 := bytesOf_D r fun x hx => h x (List.mem_cons_of_mem _ hx)
    simp only [bytesD, List.map_cons] at h2 ⊢
    simp only [bytesOf, h2, h1, cond_true]
theorem str_ev (l id : Nat) (bs : List Nat) (h : H) (hb : Bld h l id bs) (hv : ∀ b ∈ bs, b < 256) : WC E elf_tab4 49 [.ptr l 0] h fun d h' => d = .str bs ∧ h'.next = h.next ∧ ∀ j, (bs ≠ [] → j ≠ id) → hget h'.mem j = hget h.mem j := by
  refine wc_lib tt49 ?_
  rcases hb.ob with ⟨rfl, h1 | h1⟩ | ⟨hne, h1, h2, h3, h4⟩
  · simp only [libString0, readCells]
    rw [hget_eq] at h1
    simp only [h1, List.drop_succ_cons, List.drop_zero, List.take_succ_cons, List.take_zero, List.length_cons, List.length_nil, Nat.reduceAdd, Nat.beq_refl, cond_true, sC_ok]
    exact ⟨trivial, trivial, fun _ _ => trivial⟩
  · simp only [libString0, readCells]
    rw [hget_eq] at h1
    simp only [h1, List.drop_succ_cons, List.drop_zero, List.take_succ_cons, List.take_zero, List.length_cons, List.length_nil, Nat.reduceAdd, Nat.beq_refl, cond_true, sC_ok]
    exact ⟨trivial, trivial, fun _ _ => trivial⟩
  · rw [hget_eq] at h1 h2
    have hl0 : Nat.beq bs.length 0 = false := by
      cases bs with
      | nil => exact absurd rfl hne
      | cons a r => rfl
    simp only [libString0, libString, readCells, h1, h2, List.drop_succ_cons, List.drop_zero, List.take_succ_cons, List.take_zero, List.length_cons, List.length_nil, Nat.reduceAdd, Nat.beq_refl, cond_true, bytesOf_D bs hv, hl0, Bool.not_false, Bool.and_self, sC_ok]
    refine ⟨trivial, trivial, fun j hj => ?_⟩
    rw [hget_eq, hget_eq, Tr.get_set, if_neg (hj hne)]
/-! Sections. -/
abbrev SC := Nat × List Nat
def secC (ss : List SC) : List D := ss.flatMap fun p => [.int .u32 (.ofNat p.1), .str p.2]
def dataN (ss : List SC) : List Nat := ss.flatMap (·.2)
def tabN : Nat → List SC → List Nat
  | _, [] => []
  | n, p :: r => entryN p.1 (64 + n) p.2.length ++ tabN (n + p.2.length) r
def bytesN (ss : List SC) : List Nat := headN (64 + (dataN ss).length) ss.length ++ dataN ss ++ tabN 0 ss
structure SOk (ss : List SC) : Prop where
  n : ss.length ≤ 20
  each : ∀ p ∈ ss, p.1 ≤ 4294967295 ∧ p.2.length ≤ 300 ∧ ∀ b ∈ p.2, b < 256
theorem tabN_snoc : ∀ (n : Nat) (l : List SC) (p : SC), tabN n (l ++ [p]) = tabN n l ++ entryN p.1 (64 + (n + (dataN l).length)) p.2.length
  | n, [], p => by simp [tabN, dataN]
  | n, q :: r, p => by
    rw [List.cons_append, tabN, tabN, tabN_snoc _ r p, List.append_assoc]
    congr 4
    simp only [dataN, List.flatMap_cons, List.length_append]
    omega
theorem dataN_snoc (l : List SC) (p : SC) : dataN (l ++ [p]) = dataN l ++ p.2 := by simp [dataN]
theorem entryN_len (a b c : Nat) : (entryN a b c).length = 64 := by simp [entryN, numsN, le_len]
theorem tabN_len : ∀ (n : Nat) (l : List SC), (tabN n l).length = l.length * 64
  | _, [] => rfl
  | n, p :: r => by simp only [tabN, List.length_append, entryN_len, tabN_len _ r, List.length_cons]; omega
theorem dataN_len (ss : List SC) (h : ∀ p ∈ ss, p.2.length ≤ 300) : (dataN ss).length ≤ ss.length * 300 := by
  induction ss with
  | nil => simp [dataN]
  | cons p r ih =>
    have h1 := ih fun q hq => h q (List.mem_cons_of_mem _ hq)
    have h2 := h p (List.mem_cons_self ..)
    simp only [dataN, List.flatMap_cons, List.length_append, List.length_cons] at h1 ⊢
    omega
theorem take_snoc {ss : List SC} {i : Nat} (h : i < ss.length) : ss.take (i + 1) = ss.take i ++ [ss[i]] := by rw [List.take_add_one, List.getElem?_eq_getElem h]; rfl
theorem secC_at {ss : List SC} {i : Nat} (h : i < ss.length) : ∃ rest, (secC ss).drop (i * 2) = [.int .u32 (.ofNat ss[i].1), .str ss[i].2] ++ rest := by
  induction ss generalizing i with
  | nil => simp at h
  | cons q r ih =>
    cases i with
    | zero => exact ⟨secC r, rfl⟩
    | succ i =>
      obtain ⟨rest, hr⟩ := ih (i := i) (by simpa using h)
      refine ⟨rest, ?_⟩
      simp only [List.getElem_cons_succ]
      rw [← hr, Nat.succ_mul]
      simp only [secC, List.flatMap_cons, List.cons_append, List.nil_append]
      rw [show i * 2 + 2 = (i * 2 + 1) + 1 by omega, List.drop_succ_cons, List.drop_succ_cons]
theorem le_byte : ∀ (k n : Nat), ∀ b ∈ le k n, b < 256
  | 0, n, b, hb => by simp [le] at hb
  | k + 1, n, b, hb => by
    rw [le] at hb
    rcases List.mem_cons.1 hb with rfl | hb
    · exact Nat.mod_lt _ (by decide)
    · exact le_byte k _ b hb
theorem numsN_byte (ps : List (Nat × Nat)) : ∀ b ∈ numsN ps, b < 256 := by
  intro b hb
  unfold numsN at hb
  obtain ⟨p, _, h⟩ := List.mem_flatMap.1 hb
  exact le_byte _ _ b h
theorem tabN_byte : ∀ (n : Nat) (l : List SC), ∀ b ∈ tabN n l, b < 256
  | _, [], b, hb => by simp [tabN] at hb
  | n, p :: r, b, hb => by
    rw [tabN] at hb
    rcases List.mem_append.1 hb with hb | hb
    · exact numsN_byte _ b hb
    · exact tabN_byte _ r b hb
theorem dataN_byte {ss : List SC} (h : SOk ss) : ∀ b ∈ dataN ss, b < 256 := by
  intro b hb
  unfold dataN at hb
  obtain ⟨p, hp, h1⟩ := List.mem_flatMap.1 hb
  exact (h.each p hp).2.2 b h1
end Run
end Go.Abs
