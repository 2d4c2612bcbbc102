/- Numbers as bytes, and lists of them. -/
import Derived.Test.YtbknmljjoahajaaGreatDoorElf7
import Derived.Test.YtbknmljjoahajaaGreatDoorElf6
import Derived.Test.YtbknmljjoahajaaGreatDoorElf8
set_option linter.unusedVariables false
set_option linter.unusedSimpArgs false
namespace Go.Abs
namespace Run
open Go.Proofs
variable {E : Env}
attribute [local go_sem] wr_mv wr_len wr_fa wr_nil wr_ext wr_not wr_ixs wr_sl wr_ld1 wr_ldN wr_st wr_alloc wr_box wr_mkmap wr_int wr_pick wr_build wr_buildSl wr_look wr_mk wr_app wr_sbin wr_fog wr_end wd_mv wd_fa wd_nil wd_ext wd_ixs wd_alloc wd_build wd_buildSl wd_ld1 wd_ldN wd_st wd_mset wd_app wd_int wd_end sO_ok sD_ok sR_ok sL_ok sB_t sB_f sG_t sG_f kseq_n kseq_r kseq_e kblk_n kblk_r kblk_e kfn_n kfn_r sC_ok kc_eq kd_eq oFa_ptr oFa_ep oNil_ptr oNil_ep oLen_sl oLen_row oLen_nil oExt_0 oExt_1 oExt_2 okq_some oNot_bool oSl_nil rc_ptr rc_ep oRd oEp oLd1_some oLdN_some oSt oInt_int oPick_b oBuild_some oBuildSl_some ffill_nil oFill_some ffill patch oFind_some oFind_none oOne_some oTwo_some cfin_one cfin_two wanted_b wanted_u evs_nil evs_cons fargs_nil fargs_cons cells_int cells_str cells_agg cells_sl cells_row cells_map cells_ptr cells_bool cells_nil one_nil one_cons one_int one_str one_sl one_row one_map one_ptr one_bool one_vnil deql dneq dlss dgtr dgeq iEq_n iLt_n iLe beq_dec blt_dec ble_dec mem_nil readOk_nil readOk_rd loudOk_nil loudOk_loud loudOk_none List.drop_succ_cons List.drop_zero List.drop_nil List.take_succ_cons List.take_zero List.take_nil List.length_cons List.length_nil List.cons_append List.nil_append Nat.reduceAdd Nat.reduceEqDiff Nat.reduceLeDiff decide_true decide_false Bool.and_self Bool.and_true Bool.true_and Bool.not_true Bool.not_false cond_true cond_false true_and and_true Gt_St p0_eq kD_eq reduceIte Nat.add_zero Nat.zero_add next_new next_put hget_new_le hget_new_ne hget_put_same hget_put_ne wr_b2s wr_lens wr_slstr oLens_str oB2s_nil kloopu_n kloopu_e kloopu_r oApp_unf oApp_unil oSame_some readOk_loudS loudOk_rdS mem_cons loudT readT sames_one Option.map_some Option.map_none
attribute [local go_sem] tg0 sg0 tg1 sg1 tg2 sg2 tg3 sg3 tg4 sg4 tg5 sg5 tg6 sg6 tg7 sg7 tg8 sg8 tg9 sg9 tg10 sg10 tg11 sg11 tg12 sg12 tg13 sg13 tg14 sg14 tg15 sg15 tg16 sg16 tg17 sg17 tg18 sg18 tg19 sg19 tg20 sg20 tg21 sg21 tg22 sg22 tg23 sg23 tg24 sg24 tg25 sg25 tg26 sg26 tg27 sg27 tg28 sg28 tg29 sg29 tg30 sg30 tg31 sg31 tg32 sg32 tg33 sg33 tg34 sg34 tg35 sg35 tg36 sg36 tg37 sg37 tg38 sg38 tg39 sg39 tg40 sg40 tg41 sg41 tg42 sg42 tg43 sg43 tg44 sg44 tg45 sg45 tg46 sg46 tg47 sg47 tg48 sg48 tg49 sg49 tg50 sg50 tg51 sg51 tg52 sg52 tg53 sg53 tg54 sg54 tg55 sg55 tg56 sg56 tg57 sg57 tg58 sg58 tg59 sg59 tg60 sg60 tg61 sg61 tg62 sg62 tg63 sg63 tg64 sg64 tg65 sg65 tg66 sg66 tg67 sg67 tg68 sg68 tg69 sg69 tg70 sg70 tg71 sg71 tg72 sg72 tg73 sg73 tg74 sg74 tg75 sg75 tg76 sg76 tg77 sg77 tg78 sg78 tg79 sg79 tg80 sg80 tg81 sg81 tg82 sg82 tg83 sg83 tg84 sg84 tg85 sg85 tg86 sg86 tg87 sg87 tg88 sg88 tg89 sg89 tg90 sg90 tg91 sg91 tg92 sg92 tg93 sg93 tg94 sg94 tg95 sg95 tg96 sg96
theorem oInt_str {f : IntKind → Int → Int → D} {ty : TypeId} {ox oy : Operand} {a b : List Nat} {h : H} (hl : a.length + b.length ≤ 140737488355328) : oInt E f .add ty ox oy (.str a) (.str b) h = .ok (.str (a ++ b)) h := by
  simp only [oInt, cat_str hl, ok?]
section
variable {T : Nat → FFn} {t : Tr D} {h : H} {Q : Aft} {p : D → Tr D → Tr D} {k : FR} {kd : FD} {recs : List Rec} {g g1 g2 : Tr D → D}
def oIxa (n size : Nat) (x i : D) (h : H) : O D := ok? (indexArrD n size x i) h "index: array"
theorem wr_ixa {n s : Nat} : WR E T (fo (u2 (r_ixa n s) g1 g2) p k) t h Q ↔ sO E T (oIxa n s (g1 t) (g2 t) h) p k t Q := wr_fo fun _ => rfl
theorem wd_ixa {n s : Nat} : WD E T (fdo (u2 (r_ixa n s) g1 g2) p kd) recs t h Q ↔ sD E T (oIxa n s (g1 t) (g2 t) h) p kd recs t Q := wd_fo fun _ => rfl
theorem oIxa_ep {n s i : Nat} {kk : IntKind} {cs : List D} (hi : i < n) : oIxa n s (.ep cs) (.int kk (.ofNat i)) h = .ok (.ep (cs.drop (i * s))) h := by
  have : Nat.blt i n = true := by rw [Nat.blt_eq]; exact hi
  simp only [oIxa, indexArrD, inRange, this, cond_true, ok?]
theorem wd_cint {kk : IntKind} : WD E T (fdo (fcint kk g) p kd) recs t h Q ↔ sD E T (oCint kk (g t) h) p kd recs t Q := wd_fo fun _ => rfl
theorem wd_lens : WD E T (fdo (u1 r_lens g) p kd) recs t h Q ↔ sD E T (oLens (g t) h) p kd recs t Q := wd_fo fun _ => rfl
end
theorem wrap_i64 {n : Nat} (hn : n ≤ 9223372036854775807) : wrapQ .i64 (.ofNat n) = .ofNat n := wrap_ok hn
theorem put_ev (k n : Nat) (hk : k = 2 ∨ k = 4 ∨ k = 8) (hn : n / 256 ^ k = 0) (h : H) : WC E elf_tab4 86 [.int .u64 (.ofNat n), .int .i64 (.ofNat k), .v (.bool true)] h fun d h' => d = .tup [.str (le k n), .int .i64 (.ofNat 0)] ∧ Gr h h' := by
  rcases hk with rfl | rfl | rfl
  · exact put2_ev n (by have e : (256 : Nat) ^ 2 = 65536 := rfl
                        rw [e] at hn; omega) h
  · exact put4_ev n (by have e : (256 : Nat) ^ 4 = 4294967296 := rfl
                        rw [e] at hn; omega) h
  · exact put8_ev n (by have e : (256 : Nat) ^ 8 = 18446744073709551616 := rfl
                        rw [e] at hn; omega) h
theorem top_k {k n : Nat} (hk : k = 2 ∨ k = 4 ∨ k = 8) (hn : n / 256 ^ k = 0) : n ≤ 18446744073709551615 := by
  rcases hk with rfl | rfl | rfl
  · have e : (256 : Nat) ^ 2 = 65536 := rfl
    rw [e] at hn; omega
  · have e : (256 : Nat) ^ 4 = 4294967296 := rfl
    rw [e] at hn; omega
  · have e : (256 : Nat) ^ 8 = 18446744073709551616 := rfl
    rw [e] at hn; omega
theorem number_ev (k n : Nat) (hk : k = 2 ∨ k = 4 ∨ k = 8) (hn : n / 256 ^ k = 0) (h : H) : WC E elf_tab4 85 [.int .u64 (.ofNat n), .int .i64 (.ofNat k)] h fun d h' => d = .str (le k n) ∧ Gr h h' := by
  refine wc_fn (ss := ss) (T := elf_tab4) tt85 ?_
  simp only [go_sem, ss]
  repeat' (first | refine wp_skip ?_ | refine wp_exit ?_ | refine wp_ret ?_ | refine wp_seq ?_ | refine wp_cond ?_ | refine wp_block ?_ | refine wp_dreg ?_ | refine wp_reg ?_ | simp (maxSteps := 2000000) (disch := first | omega | (simp only [next_new, next_put]; omega) | (simp only [List.length_append, le_len, List.length_cons, List.length_nil, Nat.reduceAdd, Nat.reduceLeDiff]; first | done | omega) | fail) only [go_sem, add_small, shr_bin, rem_u, quo_u, wr_cint, oCint_n, wrap_u8, wrap_u64, sub_small, mul_small, leq_n, oIxs_row, Nat.reduceSub, Nat.reduceMul, Nat.reduceLT, Nat.reduceDiv, Nat.reducePow, oMk_row, repeatL, List.replicate, oB2s_row, bytesOf, Bool.false_or, Bool.or_false, Bool.or_self, Bool.or_true, Bool.true_or, oTip, Nat.reduceBEq, Nat.mod_mod, oInt_str, wd_ixa, wr_ixa, oIxa_ep, wd_cint, wd_lens, wrap_i64])
  refine wr_call ?_
  simp only [evs_nil, evs_cons, Gt_St, reduceIte]
  refine (put_ev k n hk hn _).mono ?_
  rintro d h' ⟨rfl, hg⟩
  repeat' (first | refine wp_skip ?_ | refine wp_exit ?_ | refine wp_ret ?_ | refine wp_seq ?_ | refine wp_cond ?_ | refine wp_block ?_ | refine wp_dreg ?_ | refine wp_reg ?_ | simp (maxSteps := 2000000) (disch := first | omega | (simp only [next_new, next_put]; omega) | (simp only [List.length_append, le_len, List.length_cons, List.length_nil, Nat.reduceAdd, Nat.reduceLeDiff]; first | done | omega) | fail) only [go_sem, add_small, shr_bin, rem_u, quo_u, wr_cint, oCint_n, wrap_u8, wrap_u64, sub_small, mul_small, leq_n, oIxs_row, Nat.reduceSub, Nat.reduceMul, Nat.reduceLT, Nat.reduceDiv, Nat.reducePow, oMk_row, repeatL, List.replicate, oB2s_row, bytesOf, Bool.false_or, Bool.or_false, Bool.or_self, Bool.or_true, Bool.true_or, oTip, Nat.reduceBEq, Nat.mod_mod, oInt_str, wd_ixa, wr_ixa, oIxa_ep, wd_cint, wd_lens, wrap_i64])
  exact hg
theorem rnumber_ev (k n : Nat) (hk : k = 2 ∨ k = 4 ∨ k = 8) (hn : n / 256 ^ k = 0) (h : H) : WC E elf_tab4 88 [.int .u64 (.ofNat n), .int .i64 (.ofNat k)] h fun d h' => d = .str (le k n) ∧ Gr h h' := by
  refine wc_fn (ss := ss) (T := elf_tab4) tt88 ?_
  simp only [go_sem, ss]
  repeat' (first | refine wp_skip ?_ | refine wp_exit ?_ | refine wp_ret ?_ | refine wp_seq ?_ | refine wp_cond ?_ | refine wp_block ?_ | refine wp_dreg ?_ | refine wp_reg ?_ | simp (maxSteps := 2000000) (disch := first | omega | (simp only [next_new, next_put]; omega) | (simp only [List.length_append, le_len, List.length_cons, List.length_nil, Nat.reduceAdd, Nat.reduceLeDiff]; first | done | omega) | fail) only [go_sem, add_small, shr_bin, rem_u, quo_u, wr_cint, oCint_n, wrap_u8, wrap_u64, sub_small, mul_small, leq_n, oIxs_row, Nat.reduceSub, Nat.reduceMul, Nat.reduceLT, Nat.reduceDiv, Nat.reducePow, oMk_row, repeatL, List.replicate, oB2s_row, bytesOf, Bool.false_or, Bool.or_false, Bool.or_self, Bool.or_true, Bool.true_or, oTip, Nat.reduceBEq, Nat.mod_mod, oInt_str, wd_ixa, wr_ixa, oIxa_ep, wd_cint, wd_lens, wrap_i64])
  refine wr_call ?_
  simp only [evs_nil, evs_cons, Gt_St, reduceIte]
  refine (rput_ev k n hk hn (top_k hk hn) _).mono ?_
  rintro d h' ⟨rfl, hg⟩
  repeat' (first | refine wp_skip ?_ | refine wp_exit ?_ | refine wp_ret ?_ | refine wp_seq ?_ | refine wp_cond ?_ | refine wp_block ?_ | refine wp_dreg ?_ | refine wp_reg ?_ | simp (maxSteps := 2000000) (disch := first | omega | (simp only [next_new, next_put]; omega) | (simp only [List.length_append, le_len, List.length_cons, List.length_nil, Nat.reduceAdd, Nat.reduceLeDiff]; first | done | omega) | fail) only [go_sem, add_small, shr_bin, rem_u, quo_u, wr_cint, oCint_n, wrap_u8, wrap_u64, sub_small, mul_small, leq_n, oIxs_row, Nat.reduceSub, Nat.reduceMul, Nat.reduceLT, Nat.reduceDiv, Nat.reducePow, oMk_row, repeatL, List.replicate, oB2s_row, bytesOf, Bool.false_or, Bool.or_false, Bool.or_self, Bool.or_true, Bool.true_or, oTip, Nat.reduceBEq, Nat.mod_mod, oInt_str, wd_ixa, wr_ixa, oIxa_ep, wd_cint, wd_lens, wrap_i64])
  exact hg
theorem same_u64 (n : Int) : sames [.int .u64 n] [.int .u64 n] = true := by simp only [sames, D.same, decide_true, Bool.and_self]
/-- Numbers, each with its size. -/
def numsC (ps : List (Nat × Nat)) : List D := ps.flatMap fun p => [.int .u64 (.ofNat p.1), .int .u64 (.ofNat p.2)]
def numsN (ps : List (Nat × Nat)) : List Nat := ps.flatMap fun p => le p.2 p.1
theorem numsC_at {ps : List (Nat × Nat)} {i : Nat} {p : Nat × Nat} (h : ps[i]? = some p) : ∃ rest, (numsC ps).drop (i * 2) = [.int .u64 (.ofNat p.1), .int .u64 (.ofNat p.2)] ++ rest := by
  induction ps generalizing i with
  | nil => simp at h
  | cons q r ih =>
    cases i with
    | zero => cases h; exact ⟨numsC r, rfl⟩
    | succ i =>
      obtain ⟨rest, hr⟩ := ih h
      refine ⟨rest, ?_⟩
      rw [← hr, Nat.succ_mul]
      simp only [numsC, List.flatMap_cons, List.cons_append, List.nil_append]
      rw [show i * 2 + 2 = (i * 2 + 1) + 1 by omega, List.drop_succ_cons, List.drop_succ_cons]
theorem numsN_snoc {ps : List (Nat × Nat)} {i : Nat} {p : Nat × Nat} (h : ps[i]? = some p) : numsN (ps.take (i + 1)) = numsN (ps.take i) ++ le p.2 p.1 := by
  unfold numsN; rw [List.take_add_one, h]; simp
def pOk (p : Nat × Nat) : Prop := (p.2 = 2 ∨ p.2 = 4 ∨ p.2 = 8) ∧ p.1 / 256 ^ p.2 = 0
theorem numsN_len (ps : List (Nat × Nat)) (h : ∀ p ∈ ps, pOk p) : (numsN ps).length ≤ ps.length * 8 := by
  induction ps with
  | nil => simp [numsN]
  | cons p r ih =>
    have h1 := ih fun q hq => h q (List.mem_cons_of_mem _ hq)
    have h2 := (h p (List.mem_cons_self ..)).1
    simp only [numsN, List.flatMap_cons, List.length_append, le_len, List.length_cons] at h1 ⊢
    omega
def NI (ps : List (Nat × Nat)) (id : Nat) (h0 : H) (_ : Tr D) (_ : H) (m : Nat) (t : Tr D) (h : H) : Prop :=
  ∃ i, i ≤ ps.length ∧ m = ps.length - i ∧ Gt 4 t = .int .i64 (.ofNat i) ∧ Gt 3 t = .str (numsN (ps.take i)) ∧ Gt 0 t = .sl id ps.length (numsC ps) ∧ Gr h0 h
set_option maxHeartbeats 16000000 in
theorem numbers_ev (ps : List (Nat × Nat)) (id : Nat) (hp : ∀ p ∈ ps, pOk p) (hl : ps.length ≤ 1000) (h : H) : WC E elf_tab4 50 [.sl id ps.length (numsC ps)] h fun d h' => d = .str (numsN ps) ∧ Gr h h' := by
  refine wc_fn (ss := ss) (T := elf_tab4) tt50 ?_
  simp only [go_sem, ss]
  repeat' (first | refine wp_skip ?_ | refine wp_exit ?_ | refine wp_ret ?_ | refine wp_seq ?_ | refine wp_cond ?_ | refine wp_block ?_ | refine wp_dreg ?_ | refine wp_reg ?_ | simp (maxSteps := 2000000) (disch := first | omega | (simp only [next_new, next_put]; omega) | (simp only [List.length_append, le_len, List.length_cons, List.length_nil, Nat.reduceAdd, Nat.reduceLeDiff]; first | done | omega) | fail) only [go_sem, add_small, shr_bin, rem_u, quo_u, wr_cint, oCint_n, wrap_u8, wrap_u64, sub_small, mul_small, leq_n, oIxs_row, Nat.reduceSub, Nat.reduceMul, Nat.reduceLT, Nat.reduceDiv, Nat.reducePow, oMk_row, repeatL, List.replicate, oB2s_row, bytesOf, Bool.false_or, Bool.or_false, Bool.or_self, Bool.or_true, Bool.true_or, oTip, Nat.reduceBEq, Nat.mod_mod, oInt_str, wd_ixa, wr_ixa, oIxa_ep, wd_cint, wd_lens, wrap_i64])
  refine wp_loopC (NI ps id h) ps.length ?_ ?_
  · refine ⟨0, Nat.zero_le _, rfl, ?_, ?_, ?_, Gr.refl _⟩
    all_goals simp (maxSteps := 2000000) (disch := first | omega | (simp only [next_new, next_put]; omega) | (simp only [List.length_append, le_len, List.length_cons, List.length_nil, Nat.reduceAdd, Nat.reduceLeDiff]; first | done | omega) | fail) only [go_sem]
    rfl
  rintro m t h1 ⟨i, hi, rfl, g4, g3, g0, hgr⟩
  by_cases hik : i < ps.length
  · have hd : decide (i < ps.length) = true := decide_eq_true hik
    obtain ⟨rest, hr⟩ := numsC_at (List.getElem?_eq_getElem hik)
    have hix : ∀ H, oIxs 2 (.sl id ps.length (numsC ps)) (.int .i64 (.ofNat i)) H = .ok (.ep (.int .u64 (.ofNat ps[i].1) :: .int .u64 (.ofNat ps[i].2) :: rest)) H := fun H => oIxs_sl hik (by rw [hr]; rfl)
    obtain ⟨hk, hn⟩ := hp ps[i] (List.getElem_mem hik)
    have hks : ps[i].2 ≤ 9223372036854775807 := by omega
    have hlen := numsN_len (ps.take i) (fun q hq => hp q (List.mem_of_mem_take hq))
    have hlt : (ps.take i).length ≤ 1000 := by rw [List.length_take]; omega
    have hlk : (le ps[i].2 ps[i].1).length ≤ 8 := by rw [le_len]; omega
    repeat' (first | refine wp_skip ?_ | refine wp_exit ?_ | refine wp_ret ?_ | refine wp_seq ?_ | refine wp_cond ?_ | refine wp_block ?_ | refine wp_dreg ?_ | refine wp_reg ?_ | simp (maxSteps := 2000000) (disch := first | omega | (simp only [next_new, next_put]; omega) | (simp only [List.length_append, le_len, List.length_cons, List.length_nil, Nat.reduceAdd, Nat.reduceLeDiff]; first | done | omega) | fail) only [go_sem, add_small, shr_bin, rem_u, quo_u, wr_cint, oCint_n, wrap_u8, wrap_u64, sub_small, mul_small, leq_n, oIxs_row, Nat.reduceSub, Nat.reduceMul, Nat.reduceLT, Nat.reduceDiv, Nat.reducePow, oMk_row, repeatL, List.replicate, oB2s_row, bytesOf, Bool.false_or, Bool.or_false, Bool.or_self, Bool.or_true, Bool.true_or, oTip, Nat.reduceBEq, Nat.mod_mod, oInt_str, wd_ixa, wr_ixa, oIxa_ep, wd_cint, wd_lens, wrap_i64, g4, g3, g0, hd, hix, hks])
    refine wd_call ?_
    simp only [evs_nil, evs_cons, Gt_St, reduceIte]
    refine (rnumber_ev ps[i].2 ps[i].1 hk hn _).mono ?_
    rintro d h2 ⟨rfl, hg2⟩
    repeat' (first | refine wp_skip ?_ | refine wp_exit ?_ | refine wp_ret ?_ | refine wp_seq ?_ | refine wp_cond ?_ | refine wp_block ?_ | refine wp_dreg ?_ | refine wp_reg ?_ | simp (maxSteps := 2000000) (disch := first | omega | (simp only [next_new, next_put]; omega) | (simp only [List.length_append, le_len, List.length_cons, List.length_nil, Nat.reduceAdd, Nat.reduceLeDiff]; first | done | omega) | fail) only [go_sem, add_small, shr_bin, rem_u, quo_u, wr_cint, oCint_n, wrap_u8, wrap_u64, sub_small, mul_small, leq_n, oIxs_row, Nat.reduceSub, Nat.reduceMul, Nat.reduceLT, Nat.reduceDiv, Nat.reducePow, oMk_row, repeatL, List.replicate, oB2s_row, bytesOf, Bool.false_or, Bool.or_false, Bool.or_self, Bool.or_true, Bool.true_or, oTip, Nat.reduceBEq, Nat.mod_mod, oInt_str, wd_ixa, wr_ixa, oIxa_ep, wd_cint, wd_lens, wrap_i64, g4, g3, g0, hd, hix, kloop_n, kloop_e, same_u64])
    refine ⟨ps.length - (i + 1), by omega, i + 1, by omega, rfl, ?_, ?_, ?_, hgr.trans hg2⟩
    all_goals try simp (maxSteps := 2000000) (disch := first | omega | (simp only [next_new, next_put]; omega) | (simp only [List.length_append, le_len, magic_len, List.length_cons, List.length_nil, Nat.reduceAdd, Nat.reduceLeDiff]; done) | (simp only [List.length_append, le_len, magic_len, List.length_cons, List.length_nil]; omega) | fail) only [go_sem, g0]
    all_goals first | (rw [numsN_snoc (List.getElem?_eq_getElem hik)]; done) | exact g0
  · have e : i = ps.length := by omega
    subst e
    have hd : decide (ps.length < ps.length) = false := decide_eq_false (by omega)
    rw [List.take_length] at g3
    repeat' (first | refine wp_skip ?_ | refine wp_exit ?_ | refine wp_ret ?_ | refine wp_seq ?_ | refine wp_cond ?_ | refine wp_block ?_ | refine wp_dreg ?_ | refine wp_reg ?_ | simp (maxSteps := 2000000) (disch := first | omega | (simp only [next_new, next_put]; omega) | (simp only [List.length_append, le_len, List.length_cons, List.length_nil, Nat.reduceAdd, Nat.reduceLeDiff]; first | done | omega) | fail) only [go_sem, add_small, shr_bin, rem_u, quo_u, wr_cint, oCint_n, wrap_u8, wrap_u64, sub_small, mul_small, leq_n, oIxs_row, Nat.reduceSub, Nat.reduceMul, Nat.reduceLT, Nat.reduceDiv, Nat.reducePow, oMk_row, repeatL, List.replicate, oB2s_row, bytesOf, Bool.false_or, Bool.or_false, Bool.or_self, Bool.or_true, Bool.true_or, oTip, Nat.reduceBEq, Nat.mod_mod, oInt_str, wd_ixa, wr_ixa, oIxa_ep, wd_cint, wd_lens, wrap_i64, g4, g3, g0, hd, kloop_n, kloop_e])
    exact hgr
theorem sames_str (l : List Nat) : sames [.str l] [.str l] = true := by
  have : ∀ l : List Nat, beqL l l = true := fun l => by induction l with
    | nil => rfl
    | cons a r ih => simp only [beqL, Nat.beq_refl, ih, Bool.and_self]
  simp only [sames, D.same, this, Bool.and_self]
theorem sames_u32 (n : Int) : sames [.int .u32 n] [.int .u32 n] = true := by simp only [sames, D.same, decide_true, Bool.and_self]
/-- A section's place in the table. -/
def entryN (kind at' len : Nat) : List Nat := numsN [(0, 4), (kind, 4), (0, 8), (0, 8), (at', 8), (len, 8), (0, 4), (0, 4), (1, 8), (0, 8)]
theorem k2 : 2 = 2 ∨ 2 = 4 ∨ 2 = 8 := .inl rfl
theorem k4 : 4 = 2 ∨ 4 = 4 ∨ 4 = 8 := .inr (.inl rfl)
theorem k8 : 8 = 2 ∨ 8 = 4 ∨ 8 = 8 := .inr (.inr rfl)
theorem z8 {n : Nat} (h : n ≤ 18446744073709551615) : n / 256 ^ 8 = 0 := Nat.div_eq_of_lt (by omega)
theorem z4 {n : Nat} (h : n ≤ 4294967295) : n / 256 ^ 4 = 0 := Nat.div_eq_of_lt (by omega)
theorem z2 {n : Nat} (h : n ≤ 65535) : n / 256 ^ 2 = 0 := Nat.div_eq_of_lt (by omega)
theorem len_le {k n : Nat} : (le k n).length = k := le_len k n
theorem wrap_u64i {n : Nat} (hn : n ≤ 18446744073709551615) : wrapQ .u64 (.ofNat n) = .ofNat n := wrap_u64 hn
set_option maxRecDepth 100000 in
set_option maxHeartbeats 64000000 in
theorem entry_ev (kind at' : Nat) (data : List Nat) (h1 : kind ≤ 4294967295) (h2 : at' ≤ 9223372036854775807) (h3 : data.length ≤ 9223372036854775807) (h : H) :
    WC E elf_tab4 46 [.agg [.int .u32 (.ofNat kind), .str data], .int .i64 (.ofNat at')] h fun d h' => d = .str (entryN kind at' data.length) ∧ Gr h h' := by
  have q2 : at' ≤ 18446744073709551615 := by omega
  have q3 : data.length ≤ 18446744073709551615 := by omega
  have q1 : kind ≤ 18446744073709551615 := by omega
  refine wc_fn (ss := ss) (T := elf_tab4) tt46 ?_
  simp only [go_sem, ss]
  repeat' (first | refine wp_skip ?_ | refine wp_exit ?_ | refine wp_ret ?_ | refine wp_seq ?_ | refine wp_cond ?_ | refine wp_block ?_ | refine wp_dreg ?_ | refine wp_reg ?_ | simp (maxSteps := 2000000) (disch := first | omega | (simp only [next_new, next_put]; omega) | (simp only [List.length_append, le_len, List.length_cons, List.length_nil, Nat.reduceAdd, Nat.reduceLeDiff]; first | done | omega) | fail) only [go_sem, add_small, shr_bin, rem_u, quo_u, wr_cint, oCint_n, wrap_u8, wrap_u64, sub_small, mul_small, leq_n, oIxs_row, Nat.reduceSub, Nat.reduceMul, Nat.reduceLT, Nat.reduceDiv, Nat.reducePow, oMk_row, repeatL, List.replicate, oB2s_row, bytesOf, Bool.false_or, Bool.or_false, Bool.or_self, Bool.or_true, Bool.true_or, oTip, Nat.reduceBEq, Nat.mod_mod, oInt_str, wd_ixa, wr_ixa, oIxa_ep, wd_cint, wd_lens, wrap_i64, len_le, List.length_append])
  have X0 : hget (fnew h (.cells 47 [.int .u32 (.ofNat kind), .str data])).mem h.next = some (.cells 47 [.int .u32 (.ofNat kind), .str data]) := hget_new_eq rfl
  have N0 : h.next < (fnew h (.cells 47 [.int .u32 (.ofNat kind), .str data])).next := by simp only [next_new]; omega
  have G0 : Gr h (fnew h (.cells 47 [.int .u32 (.ofNat kind), .str data])) := (Gr.refl h).new _
  refine wd_call ?_
  simp only [evs_nil, evs_cons, Gt_St, reduceIte]
  refine (number_ev 4 0 k4 (z4 (by decide)) _).mono ?_
  rintro d g1 ⟨rfl, w1⟩
  have X1 := (w1.2 h.next N0).trans X0
  have N1 := Nat.lt_of_lt_of_le N0 w1.1
  have G1 := G0.trans w1
  repeat' (first | refine wp_skip ?_ | refine wp_exit ?_ | refine wp_ret ?_ | refine wp_seq ?_ | refine wp_cond ?_ | refine wp_block ?_ | refine wp_dreg ?_ | refine wp_reg ?_ | simp (maxSteps := 2000000) (disch := first | omega | (simp only [next_new, next_put]; omega) | (simp only [List.length_append, le_len, List.length_cons, List.length_nil, Nat.reduceAdd, Nat.reduceLeDiff]; first | done | omega) | fail) only [go_sem, add_small, shr_bin, rem_u, quo_u, wr_cint, oCint_n, wrap_u8, wrap_u64, sub_small, mul_small, leq_n, oIxs_row, Nat.reduceSub, Nat.reduceMul, Nat.reduceLT, Nat.reduceDiv, Nat.reducePow, oMk_row, repeatL, List.replicate, oB2s_row, bytesOf, Bool.false_or, Bool.or_false, Bool.or_self, Bool.or_true, Bool.true_or, oTip, Nat.reduceBEq, Nat.mod_mod, oInt_str, wd_ixa, wr_ixa, oIxa_ep, wd_cint, wd_lens, wrap_i64, len_le, List.length_append, X0, X1, sames_str, sames_u32])
  refine wd_call ?_
  simp only [evs_nil, evs_cons, Gt_St, reduceIte]
  refine (number_ev 4 kind k4 (z4 h1) _).mono ?_
  rintro d g2 ⟨rfl, w2⟩
  have X2 := (w2.2 h.next N1).trans X1
  have N2 := Nat.lt_of_lt_of_le N1 w2.1
  have G2 := G1.trans w2
  repeat' (first | refine wp_skip ?_ | refine wp_exit ?_ | refine wp_ret ?_ | refine wp_seq ?_ | refine wp_cond ?_ | refine wp_block ?_ | refine wp_dreg ?_ | refine wp_reg ?_ | simp (maxSteps := 2000000) (disch := first | omega | (simp only [next_new, next_put]; omega) | (simp only [List.length_append, le_len, List.length_cons, List.length_nil, Nat.reduceAdd, Nat.reduceLeDiff]; first | done | omega) | fail) only [go_sem, add_small, shr_bin, rem_u, quo_u, wr_cint, oCint_n, wrap_u8, wrap_u64, sub_small, mul_small, leq_n, oIxs_row, Nat.reduceSub, Nat.reduceMul, Nat.reduceLT, Nat.reduceDiv, Nat.reducePow, oMk_row, repeatL, List.replicate, oB2s_row, bytesOf, Bool.false_or, Bool.or_false, Bool.or_self, Bool.or_true, Bool.true_or, oTip, Nat.reduceBEq, Nat.mod_mod, oInt_str, wd_ixa, wr_ixa, oIxa_ep, wd_cint, wd_lens, wrap_i64, len_le, List.length_append, X0, X1, X2, sames_str, sames_u32])
  refine wd_call ?_
  simp only [evs_nil, evs_cons, Gt_St, reduceIte]
  refine (number_ev 8 0 k8 (z8 (by decide)) _).mono ?_
  rintro d g3 ⟨rfl, w3⟩
  have X3 := (w3.2 h.next N2).trans X2
  have N3 := Nat.lt_of_lt_of_le N2 w3.1
  have G3 := G2.trans w3
  repeat' (first | refine wp_skip ?_ | refine wp_exit ?_ | refine wp_ret ?_ | refine wp_seq ?_ | refine wp_cond ?_ | refine wp_block ?_ | refine wp_dreg ?_ | refine wp_reg ?_ | simp (maxSteps := 2000000) (disch := first | omega | (simp only [next_new, next_put]; omega) | (simp only [List.length_append, le_len, List.length_cons, List.length_nil, Nat.reduceAdd, Nat.reduceLeDiff]; first | done | omega) | fail) only [go_sem, add_small, shr_bin, rem_u, quo_u, wr_cint, oCint_n, wrap_u8, wrap_u64, sub_small, mul_small, leq_n, oIxs_row, Nat.reduceSub, Nat.reduceMul, Nat.reduceLT, Nat.reduceDiv, Nat.reducePow, oMk_row, repeatL, List.replicate, oB2s_row, bytesOf, Bool.false_or, Bool.or_false, Bool.or_self, Bool.or_true, Bool.true_or, oTip, Nat.reduceBEq, Nat.mod_mod, oInt_str, wd_ixa, wr_ixa, oIxa_ep, wd_cint, wd_lens, wrap_i64, len_le, List.length_append, X0, X1, X2, X3, sames_str, sames_u32])
  refine wd_call ?_
  simp only [evs_nil, evs_cons, Gt_St, reduceIte]
  refine (number_ev 8 0 k8 (z8 (by decide)) _).mono ?_
  rintro d g4 ⟨rfl, w4⟩
  have X4 := (w4.2 h.next N3).trans X3
  have N4 := Nat.lt_of_lt_of_le N3 w4.1
  have G4 := G3.trans w4
  repeat' (first | refine wp_skip ?_ | refine wp_exit ?_ | refine wp_ret ?_ | refine wp_seq ?_ | refine wp_cond ?_ | refine wp_block ?_ | refine wp_dreg ?_ | refine wp_reg ?_ | simp (maxSteps := 2000000) (disch := first | omega | (simp only [next_new, next_put]; omega) | (simp only [List.length_append, le_len, List.length_cons, List.length_nil, Nat.reduceAdd, Nat.reduceLeDiff]; first | done | omega) | fail) only [go_sem, add_small, shr_bin, rem_u, quo_u, wr_cint, oCint_n, wrap_u8, wrap_u64, sub_small, mul_small, leq_n, oIxs_row, Nat.reduceSub, Nat.reduceMul, Nat.reduceLT, Nat.reduceDiv, Nat.reducePow, oMk_row, repeatL, List.replicate, oB2s_row, bytesOf, Bool.false_or, Bool.or_false, Bool.or_self, Bool.or_true, Bool.true_or, oTip, Nat.reduceBEq, Nat.mod_mod, oInt_str, wd_ixa, wr_ixa, oIxa_ep, wd_cint, wd_lens, wrap_i64, len_le, List.length_append, X0, X1, X2, X3, X4, sames_str, sames_u32])
  refine wd_call ?_
  simp only [evs_nil, evs_cons, Gt_St, reduceIte]
  refine (number_ev 8 at' k8 (z8 q2) _).mono ?_
  rintro d g5 ⟨rfl, w5⟩
  have X5 := (w5.2 h.next N4).trans X4
  have N5 := Nat.lt_of_lt_of_le N4 w5.1
  have G5 := G4.trans w5
  repeat' (first | refine wp_skip ?_ | refine wp_exit ?_ | refine wp_ret ?_ | refine wp_seq ?_ | refine wp_cond ?_ | refine wp_block ?_ | refine wp_dreg ?_ | refine wp_reg ?_ | simp (maxSteps := 2000000) (disch := first | omega | (simp only [next_new, next_put]; omega) | (simp only [List.length_append, le_len, List.length_cons, List.length_nil, Nat.reduceAdd, Nat.reduceLeDiff]; first | done | omega) | fail) only [go_sem, add_small, shr_bin, rem_u, quo_u, wr_cint, oCint_n, wrap_u8, wrap_u64, sub_small, mul_small, leq_n, oIxs_row, Nat.reduceSub, Nat.reduceMul, Nat.reduceLT, Nat.reduceDiv, Nat.reducePow, oMk_row, repeatL, List.replicate, oB2s_row, bytesOf, Bool.false_or, Bool.or_false, Bool.or_self, Bool.or_true, Bool.true_or, oTip, Nat.reduceBEq, Nat.mod_mod, oInt_str, wd_ixa, wr_ixa, oIxa_ep, wd_cint, wd_lens, wrap_i64, len_le, List.length_append, X0, X1, X2, X3, X4, X5, sames_str, sames_u32])
  refine wd_call ?_
  simp only [evs_nil, evs_cons, Gt_St, reduceIte]
  refine (number_ev 8 data.length k8 (z8 q3) _).mono ?_
  rintro d g6 ⟨rfl, w6⟩
  have X6 := (w6.2 h.next N5).trans X5
  have N6 := Nat.lt_of_lt_of_le N5 w6.1
  have G6 := G5.trans w6
  repeat' (first | refine wp_skip ?_ | refine wp_exit ?_ | refine wp_ret ?_ | refine wp_seq ?_ | refine wp_cond ?_ | refine wp_block ?_ | refine wp_dreg ?_ | refine wp_reg ?_ | simp (maxSteps := 2000000) (disch := first | omega | (simp only [next_new, next_put]; omega) | (simp only [List.length_append, le_len, List.length_cons, List.length_nil, Nat.reduceAdd, Nat.reduceLeDiff]; first | done | omega) | fail) only [go_sem, add_small, shr_bin, rem_u, quo_u, wr_cint, oCint_n, wrap_u8, wrap_u64, sub_small, mul_small, leq_n, oIxs_row, Nat.reduceSub, Nat.reduceMul, Nat.reduceLT, Nat.reduceDiv, Nat.reducePow, oMk_row, repeatL, List.replicate, oB2s_row, bytesOf, Bool.false_or, Bool.or_false, Bool.or_self, Bool.or_true, Bool.true_or, oTip, Nat.reduceBEq, Nat.mod_mod, oInt_str, wd_ixa, wr_ixa, oIxa_ep, wd_cint, wd_lens, wrap_i64, len_le, List.length_append, X0, X1, X2, X3, X4, X5, X6, sames_str, sames_u32])
  refine wr_call ?_
  simp only [evs_nil, evs_cons, Gt_St, reduceIte]
  refine (number_ev 4 0 k4 (z4 (by decide)) _).mono ?_
  rintro d g7 ⟨rfl, w7⟩
  have X7 := (w7.2 h.next N6).trans X6
  have N7 := Nat.lt_of_lt_of_le N6 w7.1
  have G7 := G6.trans w7
  repeat' (first | refine wp_skip ?_ | refine wp_exit ?_ | refine wp_ret ?_ | refine wp_seq ?_ | refine wp_cond ?_ | refine wp_block ?_ | refine wp_dreg ?_ | refine wp_reg ?_ | simp (maxSteps := 2000000) (disch := first | omega | (simp only [next_new, next_put]; omega) | (simp only [List.length_append, le_len, List.length_cons, List.length_nil, Nat.reduceAdd, Nat.reduceLeDiff]; first | done | omega) | fail) only [go_sem, add_small, shr_bin, rem_u, quo_u, wr_cint, oCint_n, wrap_u8, wrap_u64, sub_small, mul_small, leq_n, oIxs_row, Nat.reduceSub, Nat.reduceMul, Nat.reduceLT, Nat.reduceDiv, Nat.reducePow, oMk_row, repeatL, List.replicate, oB2s_row, bytesOf, Bool.false_or, Bool.or_false, Bool.or_self, Bool.or_true, Bool.true_or, oTip, Nat.reduceBEq, Nat.mod_mod, oInt_str, wd_ixa, wr_ixa, oIxa_ep, wd_cint, wd_lens, wrap_i64, len_le, List.length_append, X0, X1, X2, X3, X4, X5, X6, X7, sames_str, sames_u32])
  refine wr_call ?_
  simp only [evs_nil, evs_cons, Gt_St, reduceIte]
  refine (number_ev 4 0 k4 (z4 (by decide)) _).mono ?_
  rintro d g8 ⟨rfl, w8⟩
  have X8 := (w8.2 h.next N7).trans X7
  have N8 := Nat.lt_of_lt_of_le N7 w8.1
  have G8 := G7.trans w8
  repeat' (first | refine wp_skip ?_ | refine wp_exit ?_ | refine wp_ret ?_ | refine wp_seq ?_ | refine wp_cond ?_ | refine wp_block ?_ | refine wp_dreg ?_ | refine wp_reg ?_ | simp (maxSteps := 2000000) (disch := first | omega | (simp only [next_new, next_put]; omega) | (simp only [List.length_append, le_len, List.length_cons, List.length_nil, Nat.reduceAdd, Nat.reduceLeDiff]; first | done | omega) | fail) only [go_sem, add_small, shr_bin, rem_u, quo_u, wr_cint, oCint_n, wrap_u8, wrap_u64, sub_small, mul_small, leq_n, oIxs_row, Nat.reduceSub, Nat.reduceMul, Nat.reduceLT, Nat.reduceDiv, Nat.reducePow, oMk_row, repeatL, List.replicate, oB2s_row, bytesOf, Bool.false_or, Bool.or_false, Bool.or_self, Bool.or_true, Bool.true_or, oTip, Nat.reduceBEq, Nat.mod_mod, oInt_str, wd_ixa, wr_ixa, oIxa_ep, wd_cint, wd_lens, wrap_i64, len_le, List.length_append, X0, X1, X2, X3, X4, X5, X6, X7, X8, sames_str, sames_u32])
  refine wr_call ?_
  simp only [evs_nil, evs_cons, Gt_St, reduceIte]
  refine (number_ev 8 1 k8 (z8 (by decide)) _).mono ?_
  rintro d g9 ⟨rfl, w9⟩
  have X9 := (w9.2 h.next N8).trans X8
  have N9 := Nat.lt_of_lt_of_le N8 w9.1
  have G9 := G8.trans w9
  repeat' (first | refine wp_skip ?_ | refine wp_exit ?_ | refine wp_ret ?_ | refine wp_seq ?_ | refine wp_cond ?_ | refine wp_block ?_ | refine wp_dreg ?_ | refine wp_reg ?_ | simp (maxSteps := 2000000) (disch := first | omega | (simp only [next_new, next_put]; omega) | (simp only [List.length_append, le_len, List.length_cons, List.length_nil, Nat.reduceAdd, Nat.reduceLeDiff]; first | done | omega) | fail) only [go_sem, add_small, shr_bin, rem_u, quo_u, wr_cint, oCint_n, wrap_u8, wrap_u64, sub_small, mul_small, leq_n, oIxs_row, Nat.reduceSub, Nat.reduceMul, Nat.reduceLT, Nat.reduceDiv, Nat.reducePow, oMk_row, repeatL, List.replicate, oB2s_row, bytesOf, Bool.false_or, Bool.or_false, Bool.or_self, Bool.or_true, Bool.true_or, oTip, Nat.reduceBEq, Nat.mod_mod, oInt_str, wd_ixa, wr_ixa, oIxa_ep, wd_cint, wd_lens, wrap_i64, len_le, List.length_append, X0, X1, X2, X3, X4, X5, X6, X7, X8, X9, sames_str, sames_u32])
  refine wr_call ?_
  simp only [evs_nil, evs_cons, Gt_St, reduceIte]
  refine (number_ev 8 0 k8 (z8 (by decide)) _).mono ?_
  rintro d g10 ⟨rfl, w10⟩
  have X10 := (w10.2 h.next N9).trans X9
  have N10 := Nat.lt_of_lt_of_le N9 w10.1
  have G10 := G9.trans w10
  repeat' (first | refine wp_skip ?_ | refine wp_exit ?_ | refine wp_ret ?_ | refine wp_seq ?_ | refine wp_cond ?_ | refine wp_block ?_ | refine wp_dreg ?_ | refine wp_reg ?_ | simp (maxSteps := 2000000) (disch := first | omega | (simp only [next_new, next_put]; omega) | (simp only [List.length_append, le_len, List.length_cons, List.length_nil, Nat.reduceAdd, Nat.reduceLeDiff]; first | done | omega) | fail) only [go_sem, add_small, shr_bin, rem_u, quo_u, wr_cint, oCint_n, wrap_u8, wrap_u64, sub_small, mul_small, leq_n, oIxs_row, Nat.reduceSub, Nat.reduceMul, Nat.reduceLT, Nat.reduceDiv, Nat.reducePow, oMk_row, repeatL, List.replicate, oB2s_row, bytesOf, Bool.false_or, Bool.or_false, Bool.or_self, Bool.or_true, Bool.true_or, oTip, Nat.reduceBEq, Nat.mod_mod, oInt_str, wd_ixa, wr_ixa, oIxa_ep, wd_cint, wd_lens, wrap_i64, len_le, List.length_append, X0, X1, X2, X3, X4, X5, X6, X7, X8, X9, X10, sames_str, sames_u32])
  exact ⟨by simp only [entryN, numsN, List.flatMap_cons, List.flatMap_nil, List.append_nil, List.append_assoc], G10⟩
def magic : List Nat := [127, 69, 76, 70]
set_option maxRecDepth 100000 in
set_option maxHeartbeats 64000000 in
theorem putm_ev (h : H) : WC E elf_tab4 86 [.int .u64 (.ofNat 2135247942), .int .i64 (.ofNat 4), .v (.bool false)] h fun d h' => d = .tup [.str magic, .int .i64 (.ofNat 0)] ∧ Gr h h' := by
  have hB : ∀ (l : Nat) (H : H), hget H.mem l = some (.cells 5 [.int .u8 (.ofNat 127), .int .u8 (.ofNat 69), .int .u8 (.ofNat 76), .int .u8 (.ofNat 70)]) → oB2s (.row l 0 4 4) H = .ok (.str magic) H := fun l H hm => oB2s_row hm rfl rfl
  refine wc_fn (ss := ss) (T := elf_tab4) tt86 ?_
  simp only [go_sem, ss]
  repeat' (first | refine wp_skip ?_ | refine wp_exit ?_ | refine wp_ret ?_ | refine wp_seq ?_ | refine wp_cond ?_ | refine wp_block ?_ | refine wp_dreg ?_ | refine wp_reg ?_ | simp (maxSteps := 2000000) (disch := first | omega | (simp only [next_new, next_put]; omega) | (simp only [List.length_append, le_len, List.length_cons, List.length_nil, Nat.reduceAdd, Nat.reduceLeDiff]; first | done | omega) | fail) only [go_sem])
  refine wr_call ?_
  simp only [evs_nil, evs_cons, Gt_St, reduceIte]
  refine (good_ev 4 (by decide) h).mono ?_
  rintro d h' ⟨rfl, rfl⟩
  simp only [yes]
  repeat' (first | refine wp_skip ?_ | refine wp_exit ?_ | refine wp_ret ?_ | refine wp_seq ?_ | refine wp_cond ?_ | refine wp_block ?_ | refine wp_dreg ?_ | refine wp_reg ?_ | simp (maxSteps := 2000000) (disch := first | omega | (simp only [next_new, next_put]; omega) | (simp only [List.length_append, le_len, List.length_cons, List.length_nil, Nat.reduceAdd, Nat.reduceLeDiff]; first | done | omega) | fail) only [go_sem, add_small, shr_bin, rem_u, quo_u, wr_cint, oCint_n, wrap_u8, wrap_u64, sub_small, mul_small, leq_n, oIxs_row, Nat.reduceSub, Nat.reduceMul, Nat.reduceLT, Nat.reduceDiv, Nat.reducePow, oMk_row, repeatL, List.replicate, oB2s_row, bytesOf, Bool.false_or, Bool.or_false, Bool.or_self, Bool.or_true, Bool.true_or, oTip, Nat.reduceBEq, Nat.mod_mod, oInt_str, wd_ixa, wr_ixa, oIxa_ep, wd_cint, wd_lens, wrap_i64])
  refine wr_call ?_
  simp only [evs_nil, evs_cons, Gt_St, reduceIte]
  refine (fits_ev 2135247942 32 4294967295 (by decide) (by decide) _).mono ?_
  rintro d h' ⟨rfl, rfl⟩
  simp only [yes]
  repeat' (first | refine wp_skip ?_ | refine wp_exit ?_ | refine wp_ret ?_ | refine wp_seq ?_ | refine wp_cond ?_ | refine wp_block ?_ | refine wp_dreg ?_ | refine wp_reg ?_ | refine wp_loopU ?_ | simp (maxSteps := 2000000) (disch := first | omega | (simp only [next_new, next_put]; omega) | (simp only [List.length_append, le_len, List.length_cons, List.length_nil, Nat.reduceAdd, Nat.reduceLeDiff]; first | done | omega) | fail) only [go_sem, add_small, shr_bin, rem_u, quo_u, wr_cint, oCint_n, wrap_u8, wrap_u64, sub_small, mul_small, leq_n, oIxs_row, Nat.reduceSub, Nat.reduceMul, Nat.reduceLT, Nat.reduceDiv, Nat.reducePow, oMk_row, repeatL, List.replicate, oB2s_row, bytesOf, Bool.false_or, Bool.or_false, Bool.or_self, Bool.or_true, Bool.true_or, oTip, Nat.reduceBEq, Nat.mod_mod, oInt_str, wd_ixa, wr_ixa, oIxa_ep, wd_cint, wd_lens, wrap_i64, Nat.reduceMod])
  rw [hB _ _ hget_put_same]
  repeat' (first | refine wp_skip ?_ | refine wp_exit ?_ | refine wp_ret ?_ | refine wp_seq ?_ | refine wp_cond ?_ | refine wp_block ?_ | refine wp_dreg ?_ | refine wp_reg ?_ | simp (maxSteps := 2000000) (disch := first | omega | (simp only [next_new, next_put]; omega) | (simp only [List.length_append, le_len, List.length_cons, List.length_nil, Nat.reduceAdd, Nat.reduceLeDiff]; first | done | omega) | fail) only [go_sem, add_small, shr_bin, rem_u, quo_u, wr_cint, oCint_n, wrap_u8, wrap_u64, sub_small, mul_small, leq_n, oIxs_row, Nat.reduceSub, Nat.reduceMul, Nat.reduceLT, Nat.reduceDiv, Nat.reducePow, oMk_row, repeatL, List.replicate, oB2s_row, bytesOf, Bool.false_or, Bool.or_false, Bool.or_self, Bool.or_true, Bool.true_or, oTip, Nat.reduceBEq, Nat.mod_mod, oInt_str, wd_ixa, wr_ixa, oIxa_ep, wd_cint, wd_lens, wrap_i64])
  exact (((((Gr.refl _).new _).put (Nat.le_refl _) _).put (Nat.le_refl _) _).put (Nat.le_refl _) _).put (Nat.le_refl _) _
theorem repeat_ev (h : H) : WC E elf_tab4 87 [.str [0], .int .i64 (.ofNat 8)] h fun d h' => d = .str [0, 0, 0, 0, 0, 0, 0, 0] ∧ h' = h := by
  refine wc_lib tt87 ?_
  exact ⟨rfl, rfl⟩
/-- The first bytes of a file. -/
def headN (table count : Nat) : List Nat := magic ++ [2, 1, 1, 0] ++ numsN [(0, 8), (1, 2), (62, 2), (1, 4), (0, 8), (0, 8), (table, 8), (0, 4), (64, 2), (0, 2), (0, 2), (64, 2), (count, 2), (0, 2)]
theorem magic_len : magic.length = 4 := rfl
set_option maxRecDepth 100000 in
set_option maxHeartbeats 64000000 in
theorem header_ev (table count : Nat) (h1 : table ≤ 9223372036854775807) (h2 : count ≤ 65535) (h : H) :
    WC E elf_tab4 48 [.int .i64 (.ofNat table), .int .i64 (.ofNat count)] h fun d h' => d = .str (headN table count) ∧ Gr h h' := by
  have q1 : table ≤ 18446744073709551615 := by omega
  have q2 : count ≤ 18446744073709551615 := by omega
  refine wc_fn (ss := ss) (T := elf_tab4) tt48 ?_
  simp only [go_sem, ss]
  repeat' (first | refine wp_skip ?_ | refine wp_exit ?_ | refine wp_ret ?_ | refine wp_seq ?_ | refine wp_cond ?_ | refine wp_block ?_ | refine wp_dreg ?_ | refine wp_reg ?_ | simp (maxSteps := 2000000) (disch := first | omega | (simp only [next_new, next_put]; omega) | (simp only [List.length_append, le_len, magic_len, List.length_cons, List.length_nil, Nat.reduceAdd, Nat.reduceLeDiff]; done) | (simp only [List.length_append, le_len, magic_len, List.length_cons, List.length_nil]; omega) | fail) only [go_sem, add_small, shr_bin, rem_u, quo_u, wr_cint, oCint_n, wrap_u8, wrap_u64, sub_small, mul_small, leq_n, oIxs_row, Nat.reduceSub, Nat.reduceMul, Nat.reduceLT, Nat.reduceDiv, Nat.reducePow, oMk_row, repeatL, List.replicate, oB2s_row, bytesOf, Bool.false_or, Bool.or_false, Bool.or_self, Bool.or_true, Bool.true_or, oTip, Nat.reduceBEq, Nat.mod_mod, oInt_str, wd_ixa, wr_ixa, oIxa_ep, wd_cint, wd_lens, wrap_i64, len_le, List.length_append, magic_len])
  refine wr_call ?_
  simp only [evs_nil, evs_cons, Gt_St, reduceIte]
  refine (putm_ev _).mono ?_
  rintro d g1 ⟨rfl, w1⟩
  repeat' (first | refine wp_skip ?_ | refine wp_exit ?_ | refine wp_ret ?_ | refine wp_seq ?_ | refine wp_cond ?_ | refine wp_block ?_ | refine wp_dreg ?_ | refine wp_reg ?_ | simp (maxSteps := 2000000) (disch := first | omega | (simp only [next_new, next_put]; omega) | (simp only [List.length_append, le_len, magic_len, List.length_cons, List.length_nil, Nat.reduceAdd, Nat.reduceLeDiff]; done) | (simp only [List.length_append, le_len, magic_len, List.length_cons, List.length_nil]; omega) | fail) only [go_sem, add_small, shr_bin, rem_u, quo_u, wr_cint, oCint_n, wrap_u8, wrap_u64, sub_small, mul_small, leq_n, oIxs_row, Nat.reduceSub, Nat.reduceMul, Nat.reduceLT, Nat.reduceDiv, Nat.reducePow, oMk_row, repeatL, List.replicate, oB2s_row, bytesOf, Bool.false_or, Bool.or_false, Bool.or_self, Bool.or_true, Bool.true_or, oTip, Nat.reduceBEq, Nat.mod_mod, oInt_str, wd_ixa, wr_ixa, oIxa_ep, wd_cint, wd_lens, wrap_i64, len_le, List.length_append, magic_len])
  refine wr_call ?_
  simp only [evs_nil, evs_cons, Gt_St, reduceIte]
  refine (repeat_ev _).mono ?_
  rintro d g2 ⟨rfl, rfl⟩
  repeat' (first | refine wp_skip ?_ | refine wp_exit ?_ | refine wp_ret ?_ | refine wp_seq ?_ | refine wp_cond ?_ | refine wp_block ?_ | refine wp_dreg ?_ | refine wp_reg ?_ | simp (maxSteps := 2000000) (disch := first | omega | (simp only [next_new, next_put]; omega) | (simp only [List.length_append, le_len, magic_len, List.length_cons, List.length_nil, Nat.reduceAdd, Nat.reduceLeDiff]; done) | (simp only [List.length_append, le_len, magic_len, List.length_cons, List.length_nil]; omega) | fail) only [go_sem, add_small, shr_bin, rem_u, quo_u, wr_cint, oCint_n, wrap_u8, wrap_u64, sub_small, mul_small, leq_n, oIxs_row, Nat.reduceSub, Nat.reduceMul, Nat.reduceLT, Nat.reduceDiv, Nat.reducePow, oMk_row, repeatL, List.replicate, oB2s_row, bytesOf, Bool.false_or, Bool.or_false, Bool.or_self, Bool.or_true, Bool.true_or, oTip, Nat.reduceBEq, Nat.mod_mod, oInt_str, wd_ixa, wr_ixa, oIxa_ep, wd_cint, wd_lens, wrap_i64, len_le, List.length_append, magic_len])
  refine wr_call ?_
  simp only [evs_nil, evs_cons, Gt_St, reduceIte]
  refine (number_ev 2 1 k2 (z2 (by decide)) _).mono ?_
  rintro d g3 ⟨rfl, w3⟩
  repeat' (first | refine wp_skip ?_ | refine wp_exit ?_ | refine wp_ret ?_ | refine wp_seq ?_ | refine wp_cond ?_ | refine wp_block ?_ | refine wp_dreg ?_ | refine wp_reg ?_ | simp (maxSteps := 2000000) (disch := first | omega | (simp only [next_new, next_put]; omega) | (simp only [List.length_append, le_len, magic_len, List.length_cons, List.length_nil, Nat.reduceAdd, Nat.reduceLeDiff]; done) | (simp only [List.length_append, le_len, magic_len, List.length_cons, List.length_nil]; omega) | fail) only [go_sem, add_small, shr_bin, rem_u, quo_u, wr_cint, oCint_n, wrap_u8, wrap_u64, sub_small, mul_small, leq_n, oIxs_row, Nat.reduceSub, Nat.reduceMul, Nat.reduceLT, Nat.reduceDiv, Nat.reducePow, oMk_row, repeatL, List.replicate, oB2s_row, bytesOf, Bool.false_or, Bool.or_false, Bool.or_self, Bool.or_true, Bool.true_or, oTip, Nat.reduceBEq, Nat.mod_mod, oInt_str, wd_ixa, wr_ixa, oIxa_ep, wd_cint, wd_lens, wrap_i64, len_le, List.length_append, magic_len])
  refine wr_call ?_
  simp only [evs_nil, evs_cons, Gt_St, reduceIte]
  refine (number_ev 2 62 k2 (z2 (by decide)) _).mono ?_
  rintro d g4 ⟨rfl, w4⟩
  repeat' (first | refine wp_skip ?_ | refine wp_exit ?_ | refine wp_ret ?_ | refine wp_seq ?_ | refine wp_cond ?_ | refine wp_block ?_ | refine wp_dreg ?_ | refine wp_reg ?_ | simp (maxSteps := 2000000) (disch := first | omega | (simp only [next_new, next_put]; omega) | (simp only [List.length_append, le_len, magic_len, List.length_cons, List.length_nil, Nat.reduceAdd, Nat.reduceLeDiff]; done) | (simp only [List.length_append, le_len, magic_len, List.length_cons, List.length_nil]; omega) | fail) only [go_sem, add_small, shr_bin, rem_u, quo_u, wr_cint, oCint_n, wrap_u8, wrap_u64, sub_small, mul_small, leq_n, oIxs_row, Nat.reduceSub, Nat.reduceMul, Nat.reduceLT, Nat.reduceDiv, Nat.reducePow, oMk_row, repeatL, List.replicate, oB2s_row, bytesOf, Bool.false_or, Bool.or_false, Bool.or_self, Bool.or_true, Bool.true_or, oTip, Nat.reduceBEq, Nat.mod_mod, oInt_str, wd_ixa, wr_ixa, oIxa_ep, wd_cint, wd_lens, wrap_i64, len_le, List.length_append, magic_len])
  refine wr_call ?_
  simp only [evs_nil, evs_cons, Gt_St, reduceIte]
  refine (number_ev 4 1 k4 (z4 (by decide)) _).mono ?_
  rintro d g5 ⟨rfl, w5⟩
  repeat' (first | refine wp_skip ?_ | refine wp_exit ?_ | refine wp_ret ?_ | refine wp_seq ?_ | refine wp_cond ?_ | refine wp_block ?_ | refine wp_dreg ?_ | refine wp_reg ?_ | simp (maxSteps := 2000000) (disch := first | omega | (simp only [next_new, next_put]; omega) | (simp only [List.length_append, le_len, magic_len, List.length_cons, List.length_nil, Nat.reduceAdd, Nat.reduceLeDiff]; done) | (simp only [List.length_append, le_len, magic_len, List.length_cons, List.length_nil]; omega) | fail) only [go_sem, add_small, shr_bin, rem_u, quo_u, wr_cint, oCint_n, wrap_u8, wrap_u64, sub_small, mul_small, leq_n, oIxs_row, Nat.reduceSub, Nat.reduceMul, Nat.reduceLT, Nat.reduceDiv, Nat.reducePow, oMk_row, repeatL, List.replicate, oB2s_row, bytesOf, Bool.false_or, Bool.or_false, Bool.or_self, Bool.or_true, Bool.true_or, oTip, Nat.reduceBEq, Nat.mod_mod, oInt_str, wd_ixa, wr_ixa, oIxa_ep, wd_cint, wd_lens, wrap_i64, len_le, List.length_append, magic_len])
  refine wr_call ?_
  simp only [evs_nil, evs_cons, Gt_St, reduceIte]
  refine (number_ev 8 0 k8 (z8 (by decide)) _).mono ?_
  rintro d g6 ⟨rfl, w6⟩
  repeat' (first | refine wp_skip ?_ | refine wp_exit ?_ | refine wp_ret ?_ | refine wp_seq ?_ | refine wp_cond ?_ | refine wp_block ?_ | refine wp_dreg ?_ | refine wp_reg ?_ | simp (maxSteps := 2000000) (disch := first | omega | (simp only [next_new, next_put]; omega) | (simp only [List.length_append, le_len, magic_len, List.length_cons, List.length_nil, Nat.reduceAdd, Nat.reduceLeDiff]; done) | (simp only [List.length_append, le_len, magic_len, List.length_cons, List.length_nil]; omega) | fail) only [go_sem, add_small, shr_bin, rem_u, quo_u, wr_cint, oCint_n, wrap_u8, wrap_u64, sub_small, mul_small, leq_n, oIxs_row, Nat.reduceSub, Nat.reduceMul, Nat.reduceLT, Nat.reduceDiv, Nat.reducePow, oMk_row, repeatL, List.replicate, oB2s_row, bytesOf, Bool.false_or, Bool.or_false, Bool.or_self, Bool.or_true, Bool.true_or, oTip, Nat.reduceBEq, Nat.mod_mod, oInt_str, wd_ixa, wr_ixa, oIxa_ep, wd_cint, wd_lens, wrap_i64, len_le, List.length_append, magic_len])
  refine wr_call ?_
  simp only [evs_nil, evs_cons, Gt_St, reduceIte]
  refine (number_ev 8 0 k8 (z8 (by decide)) _).mono ?_
  rintro d g7 ⟨rfl, w7⟩
  repeat' (first | refine wp_skip ?_ | refine wp_exit ?_ | refine wp_ret ?_ | refine wp_seq ?_ | refine wp_cond ?_ | refine wp_block ?_ | refine wp_dreg ?_ | refine wp_reg ?_ | simp (maxSteps := 2000000) (disch := first | omega | (simp only [next_new, next_put]; omega) | (simp only [List.length_append, le_len, magic_len, List.length_cons, List.length_nil, Nat.reduceAdd, Nat.reduceLeDiff]; done) | (simp only [List.length_append, le_len, magic_len, List.length_cons, List.length_nil]; omega) | fail) only [go_sem, add_small, shr_bin, rem_u, quo_u, wr_cint, oCint_n, wrap_u8, wrap_u64, sub_small, mul_small, leq_n, oIxs_row, Nat.reduceSub, Nat.reduceMul, Nat.reduceLT, Nat.reduceDiv, Nat.reducePow, oMk_row, repeatL, List.replicate, oB2s_row, bytesOf, Bool.false_or, Bool.or_false, Bool.or_self, Bool.or_true, Bool.true_or, oTip, Nat.reduceBEq, Nat.mod_mod, oInt_str, wd_ixa, wr_ixa, oIxa_ep, wd_cint, wd_lens, wrap_i64, len_le, List.length_append, magic_len])
  refine wr_call ?_
  simp only [evs_nil, evs_cons, Gt_St, reduceIte]
  refine (number_ev 8 table k8 (z8 q1) _).mono ?_
  rintro d g8 ⟨rfl, w8⟩
  repeat' (first | refine wp_skip ?_ | refine wp_exit ?_ | refine wp_ret ?_ | refine wp_seq ?_ | refine wp_cond ?_ | refine wp_block ?_ | refine wp_dreg ?_ | refine wp_reg ?_ | simp (maxSteps := 2000000) (disch := first | omega | (simp only [next_new, next_put]; omega) | (simp only [List.length_append, le_len, magic_len, List.length_cons, List.length_nil, Nat.reduceAdd, Nat.reduceLeDiff]; done) | (simp only [List.length_append, le_len, magic_len, List.length_cons, List.length_nil]; omega) | fail) only [go_sem, add_small, shr_bin, rem_u, quo_u, wr_cint, oCint_n, wrap_u8, wrap_u64, sub_small, mul_small, leq_n, oIxs_row, Nat.reduceSub, Nat.reduceMul, Nat.reduceLT, Nat.reduceDiv, Nat.reducePow, oMk_row, repeatL, List.replicate, oB2s_row, bytesOf, Bool.false_or, Bool.or_false, Bool.or_self, Bool.or_true, Bool.true_or, oTip, Nat.reduceBEq, Nat.mod_mod, oInt_str, wd_ixa, wr_ixa, oIxa_ep, wd_cint, wd_lens, wrap_i64, len_le, List.length_append, magic_len])
  refine wr_call ?_
  simp only [evs_nil, evs_cons, Gt_St, reduceIte]
  refine (number_ev 4 0 k4 (z4 (by decide)) _).mono ?_
  rintro d g9 ⟨rfl, w9⟩
  repeat' (first | refine wp_skip ?_ | refine wp_exit ?_ | refine wp_ret ?_ | refine wp_seq ?_ | refine wp_cond ?_ | refine wp_block ?_ | refine wp_dreg ?_ | refine wp_reg ?_ | simp (maxSteps := 2000000) (disch := first | omega | (simp only [next_new, next_put]; omega) | (simp only [List.length_append, le_len, magic_len, List.length_cons, List.length_nil, Nat.reduceAdd, Nat.reduceLeDiff]; done) | (simp only [List.length_append, le_len, magic_len, List.length_cons, List.length_nil]; omega) | fail) only [go_sem, add_small, shr_bin, rem_u, quo_u, wr_cint, oCint_n, wrap_u8, wrap_u64, sub_small, mul_small, leq_n, oIxs_row, Nat.reduceSub, Nat.reduceMul, Nat.reduceLT, Nat.reduceDiv, Nat.reducePow, oMk_row, repeatL, List.replicate, oB2s_row, bytesOf, Bool.false_or, Bool.or_false, Bool.or_self, Bool.or_true, Bool.true_or, oTip, Nat.reduceBEq, Nat.mod_mod, oInt_str, wd_ixa, wr_ixa, oIxa_ep, wd_cint, wd_lens, wrap_i64, len_le, List.length_append, magic_len])
  refine wr_call ?_
  simp only [evs_nil, evs_cons, Gt_St, reduceIte]
  refine (number_ev 2 64 k2 (z2 (by decide)) _).mono ?_
  rintro d g10 ⟨rfl, w10⟩
  repeat' (first | refine wp_skip ?_ | refine wp_exit ?_ | refine wp_ret ?_ | refine wp_seq ?_ | refine wp_cond ?_ | refine wp_block ?_ | refine wp_dreg ?_ | refine wp_reg ?_ | simp (maxSteps := 2000000) (disch := first | omega | (simp only [next_new, next_put]; omega) | (simp only [List.length_append, le_len, magic_len, List.length_cons, List.length_nil, Nat.reduceAdd, Nat.reduceLeDiff]; done) | (simp only [List.length_append, le_len, magic_len, List.length_cons, List.length_nil]; omega) | fail) only [go_sem, add_small, shr_bin, rem_u, quo_u, wr_cint, oCint_n, wrap_u8, wrap_u64, sub_small, mul_small, leq_n, oIxs_row, Nat.reduceSub, Nat.reduceMul, Nat.reduceLT, Nat.reduceDiv, Nat.reducePow, oMk_row, repeatL, List.replicate, oB2s_row, bytesOf, Bool.false_or, Bool.or_false, Bool.or_self, Bool.or_true, Bool.true_or, oTip, Nat.reduceBEq, Nat.mod_mod, oInt_str, wd_ixa, wr_ixa, oIxa_ep, wd_cint, wd_lens, wrap_i64, len_le, List.length_append, magic_len])
  refine wr_call ?_
  simp only [evs_nil, evs_cons, Gt_St, reduceIte]
  refine (number_ev 2 0 k2 (z2 (by decide)) _).mono ?_
  rintro d g11 ⟨rfl, w11⟩
  repeat' (first | refine wp_skip ?_ | refine wp_exit ?_ | refine wp_ret ?_ | refine wp_seq ?_ | refine wp_cond ?_ | refine wp_block ?_ | refine wp_dreg ?_ | refine wp_reg ?_ | simp (maxSteps := 2000000) (disch := first | omega | (simp only [next_new, next_put]; omega) | (simp only [List.length_append, le_len, magic_len, List.length_cons, List.length_nil, Nat.reduceAdd, Nat.reduceLeDiff]; done) | (simp only [List.length_append, le_len, magic_len, List.length_cons, List.length_nil]; omega) | fail) only [go_sem, add_small, shr_bin, rem_u, quo_u, wr_cint, oCint_n, wrap_u8, wrap_u64, sub_small, mul_small, leq_n, oIxs_row, Nat.reduceSub, Nat.reduceMul, Nat.reduceLT, Nat.reduceDiv, Nat.reducePow, oMk_row, repeatL, List.replicate, oB2s_row, bytesOf, Bool.false_or, Bool.or_false, Bool.or_self, Bool.or_true, Bool.true_or, oTip, Nat.reduceBEq, Nat.mod_mod, oInt_str, wd_ixa, wr_ixa, oIxa_ep, wd_cint, wd_lens, wrap_i64, len_le, List.length_append, magic_len])
  refine wr_call ?_
  simp only [evs_nil, evs_cons, Gt_St, reduceIte]
  refine (number_ev 2 0 k2 (z2 (by decide)) _).mono ?_
  rintro d g12 ⟨rfl, w12⟩
  repeat' (first | refine wp_skip ?_ | refine wp_exit ?_ | refine wp_ret ?_ | refine wp_seq ?_ | refine wp_cond ?_ | refine wp_block ?_ | refine wp_dreg ?_ | refine wp_reg ?_ | simp (maxSteps := 2000000) (disch := first | omega | (simp only [next_new, next_put]; omega) | (simp only [List.length_append, le_len, magic_len, List.length_cons, List.length_nil, Nat.reduceAdd, Nat.reduceLeDiff]; done) | (simp only [List.length_append, le_len, magic_len, List.length_cons, List.length_nil]; omega) | fail) only [go_sem, add_small, shr_bin, rem_u, quo_u, wr_cint, oCint_n, wrap_u8, wrap_u64, sub_small, mul_small, leq_n, oIxs_row, Nat.reduceSub, Nat.reduceMul, Nat.reduceLT, Nat.reduceDiv, Nat.reducePow, oMk_row, repeatL, List.replicate, oB2s_row, bytesOf, Bool.false_or, Bool.or_false, Bool.or_self, Bool.or_true, Bool.true_or, oTip, Nat.reduceBEq, Nat.mod_mod, oInt_str, wd_ixa, wr_ixa, oIxa_ep, wd_cint, wd_lens, wrap_i64, len_le, List.length_append, magic_len])
  refine wr_call ?_
  simp only [evs_nil, evs_cons, Gt_St, reduceIte]
  refine (number_ev 2 64 k2 (z2 (by decide)) _).mono ?_
  rintro d g13 ⟨rfl, w13⟩
  repeat' (first | refine wp_skip ?_ | refine wp_exit ?_ | refine wp_ret ?_ | refine wp_seq ?_ | refine wp_cond ?_ | refine wp_block ?_ | refine wp_dreg ?_ | refine wp_reg ?_ | simp (maxSteps := 2000000) (disch := first | omega | (simp only [next_new, next_put]; omega) | (simp only [List.length_append, le_len, magic_len, List.length_cons, List.length_nil, Nat.reduceAdd, Nat.reduceLeDiff]; done) | (simp only [List.length_append, le_len, magic_len, List.length_cons, List.length_nil]; omega) | fail) only [go_sem, add_small, shr_bin, rem_u, quo_u, wr_cint, oCint_n, wrap_u8, wrap_u64, sub_small, mul_small, leq_n, oIxs_row, Nat.reduceSub, Nat.reduceMul, Nat.reduceLT, Nat.reduceDiv, Nat.reducePow, oMk_row, repeatL, List.replicate, oB2s_row, bytesOf, Bool.false_or, Bool.or_false, Bool.or_self, Bool.or_true, Bool.true_or, oTip, Nat.reduceBEq, Nat.mod_mod, oInt_str, wd_ixa, wr_ixa, oIxa_ep, wd_cint, wd_lens, wrap_i64, len_le, List.length_append, magic_len])
  refine wr_call ?_
  simp only [evs_nil, evs_cons, Gt_St, reduceIte]
  refine (number_ev 2 count k2 (z2 h2) _).mono ?_
  rintro d g14 ⟨rfl, w14⟩
  repeat' (first | refine wp_skip ?_ | refine wp_exit ?_ | refine wp_ret ?_ | refine wp_seq ?_ | refine wp_cond ?_ | refine wp_block ?_ | refine wp_dreg ?_ | refine wp_reg ?_ | simp (maxSteps := 2000000) (disch := first | omega | (simp only [next_new, next_put]; omega) | (simp only [List.length_append, le_len, magic_len, List.length_cons, List.length_nil, Nat.reduceAdd, Nat.reduceLeDiff]; done) | (simp only [List.length_append, le_len, magic_len, List.length_cons, List.length_nil]; omega) | fail) only [go_sem, add_small, shr_bin, rem_u, quo_u, wr_cint, oCint_n, wrap_u8, wrap_u64, sub_small, mul_small, leq_n, oIxs_row, Nat.reduceSub, Nat.reduceMul, Nat.reduceLT, Nat.reduceDiv, Nat.reducePow, oMk_row, repeatL, List.replicate, oB2s_row, bytesOf, Bool.false_or, Bool.or_false, Bool.or_self, Bool.or_true, Bool.true_or, oTip, Nat.reduceBEq, Nat.mod_mod, oInt_str, wd_ixa, wr_ixa, oIxa_ep, wd_cint, wd_lens, wrap_i64, len_le, List.length_append, magic_len])
  refine wr_call ?_
  simp only [evs_nil, evs_cons, Gt_St, reduceIte]
  refine (number_ev 2 0 k2 (z2 (by decide)) _).mono ?_
  rintro d g15 ⟨rfl, w15⟩
  repeat' (first | refine wp_skip ?_ | refine wp_exit ?_ | refine wp_ret ?_ | refine wp_seq ?_ | refine wp_cond ?_ | refine wp_block ?_ | refine wp_dreg ?_ | refine wp_reg ?_ | simp (maxSteps := 2000000) (disch := first | omega | (simp only [next_new, next_put]; omega) | (simp only [List.length_append, le_len, magic_len, List.length_cons, List.length_nil, Nat.reduceAdd, Nat.reduceLeDiff]; done) | (simp only [List.length_append, le_len, magic_len, List.length_cons, List.length_nil]; omega) | fail) only [go_sem, add_small, shr_bin, rem_u, quo_u, wr_cint, oCint_n, wrap_u8, wrap_u64, sub_small, mul_small, leq_n, oIxs_row, Nat.reduceSub, Nat.reduceMul, Nat.reduceLT, Nat.reduceDiv, Nat.reducePow, oMk_row, repeatL, List.replicate, oB2s_row, bytesOf, Bool.false_or, Bool.or_false, Bool.or_self, Bool.or_true, Bool.true_or, oTip, Nat.reduceBEq, Nat.mod_mod, oInt_str, wd_ixa, wr_ixa, oIxa_ep, wd_cint, wd_lens, wrap_i64, len_le, List.length_append, magic_len])
  exact ⟨by simp only [headN, numsN, List.flatMap_cons, List.flatMap_nil, List.append_nil, List.append_assoc]; rfl, (w1.trans (w3.trans (w4.trans (w5.trans (w6.trans (w7.trans (w8.trans (w9.trans (w10.trans (w11.trans (w12.trans (w13.trans (w14.trans w15)))))))))))))⟩
end Run
end Go.Abs
