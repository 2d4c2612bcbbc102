/- Expressions as plain data of the reckoner; what one must have. -/
import Derived.Test.YtadigpaglappbaaTable
import Derived.Test.YtadigpaglappbaaExprN
set_option linter.unusedVariables false
set_option linter.unusedSimpArgs false
namespace Go.Abs.Sy
open Go.Abs.Run hiding op
open Go.Proofs.Ytadigpaglappbaa.Word Go.Proofs.Ytadigpaglappbaa.BoundsN Go.Proofs.Ytadigpaglappbaa.ExprN

abbrev EX := Go.Proofs.Ytadigpaglappbaa.ExprN.X
abbrev RR := Go.Proofs.Ytadigpaglappbaa.BoundsN.R

theorem WP.mono {E : Env} {T : Nat → FFn} {c : FC} {t : Tr D} {h : H} {M Q : Aft} (hc : WP E T c t h M) (hq : ∀ e t' h', M e t' h' → Q e t' h') : WP E T c t h Q := by
  obtain ⟨e, t1, h1, hr, hm⟩ := hc
  exact ⟨e, t1, h1, hr, hq _ _ _ hm⟩
/-- What was made is kept. -/
def Gr (h h' : H) : Prop := h.next ≤ h'.next ∧ ∀ l, l < h.next → hget h'.mem l = hget h.mem l
theorem Gr.refl (h : H) : Gr h h := ⟨Nat.le_refl _, fun _ _ => rfl⟩
theorem Gr.trans {a b c : H} (h : Gr a b) (k : Gr b c) : Gr a c := ⟨Nat.le_trans h.1 k.1, fun l hl => (k.2 l (Nat.lt_of_lt_of_le hl h.1)).trans (h.2 l hl)⟩
theorem Gr.new {a b : H} (h : Gr a b) (o : AObj) : Gr a (fnew b o) := ⟨Nat.le_succ_of_le h.1, fun l hl => (hget_new_ne (Nat.ne_of_lt (Nat.lt_of_lt_of_le hl h.1))).trans (h.2 l hl)⟩
theorem Gr.put {a b : H} (h : Gr a b) {k : Nat} (hk : a.next ≤ k) (o : AObj) : Gr a (fput' b k o) := ⟨h.1, fun l hl => (hget_put_ne (Nat.ne_of_lt (Nat.lt_of_lt_of_le hl hk))).trans (h.2 l hl)⟩
theorem min_val {P : Program} (m n : Nat) (cs : Array Bool) : val? P (builtin .min #[3, 3] 3 cs #[.int .i64 (.ofNat m), .int .i64 (.ofNat n)]) = some (.value (.int .i64 (.ofNat (min m n)))) := by
  have e : (if (Int.ofNat n) < (Int.ofNat m) then Int.ofNat n else Int.ofNat m) = Int.ofNat (min m n) := by
    simp only [Int.ofNat_eq_natCast]
    split <;> omega
  rw [← e]
  rfl
theorem min_bi {E : Env} {c : Call} {a : AAct} {h : H} (m n : Nat) (cs : Array Bool) : r_bi .min #[3, 3] 3 cs [.d (.int .i64 (.ofNat m)), .d (.int .i64 (.ofNat n))] E c a h = .ok (.int .i64 (.ofNat (min m n))) h := by
  simp only [r_bi, AAct.evals, AAct.eval, plains, D.plain, D.plain0, D.plain1]
  have := min_val (P := E.P) m n cs
  simp only [this]
  rfl
theorem head_at {size m i : Nat} {cs xs rest : List D} (hx : cs.drop (i * size) = xs ++ rest) (hl : xs.length = size) (hi : i < m) : ∃ rest', (cs.take (m * size)).drop (i * size) = xs ++ rest' := by
  have e : m * size - i * size = size + (m - i - 1) * size := by
    obtain ⟨j, rfl⟩ : ∃ j, m = i + 1 + j := ⟨m - i - 1, by omega⟩
    have : i + 1 + j - i - 1 = j := by omega
    rw [this, Nat.add_mul, Nat.add_mul, Nat.one_mul]
    omega
  refine ⟨rest.take ((m - i - 1) * size), ?_⟩
  rw [List.drop_take, hx, e, List.take_append, hl, List.take_of_length_le (by omega), Nat.add_sub_cancel_left]
theorem headSl_at {size id n m : Nat} {cs : List D} (hm : m ≤ n) : ∃ id' cs', headSl size id n cs m = .sl id' m cs' ∧ ∀ i xs rest, cs.drop (i * size) = xs ++ rest → xs.length = size → i < m → ∃ rest', cs'.drop (i * size) = xs ++ rest' := by
  unfold headSl
  cases hb : Nat.beq m n with
  | true => exact ⟨id, cs, by rw [Nat.eq_of_beq_eq_true hb]; rfl, fun i xs rest hx _ _ => ⟨rest, hx⟩⟩
  | false => exact ⟨0, cs.take (m * size), rfl, fun i xs rest hx hl hi => head_at hx hl hi⟩
/-- The kids of an expression. -/
def KD (d : D) (kids : List Int) : Prop := (d = .v (.slice none 0 0) ∧ kids = []) ∨ d = .sl 0 kids.length (kids.map fun c => .int .i64 c)
theorem KD.one {d : D} {kids : List Int} (hk : KD d kids) : d.one = true := by rcases hk with ⟨rfl, _⟩ | rfl <;> rfl
theorem KD.cells {d : D} {kids : List Int} (hk : KD d kids) : d.cells = [d] := by rcases hk with ⟨rfl, _⟩ | rfl <;> rfl
theorem same_ints (l : List Int) : sames (l.map fun c => .int .i64 c) (l.map fun c => .int .i64 c) = true := by
  induction l with
  | nil => rfl
  | cons c r ih => simp only [List.map_cons, sames, D.same, decide_true, Bool.and_self, ih]
theorem KD.same {d : D} {kids : List Int} (hk : KD d kids) : sames [d] [d] = true := by
  rcases hk with ⟨rfl, _⟩ | rfl
  · rfl
  · simp only [sames, D.same, Nat.beq_refl, same_ints, Bool.and_self]
theorem KD.len {d : D} {kids : List Int} (hk : KD d kids) (h : H) : oLen d h = .ok (.int .i64 (.ofNat kids.length)) h := by rcases hk with ⟨rfl, rfl⟩ | rfl <;> rfl
def xc (x : EX) (kd : D) : List D := [.int .i64 x.kind, .str (strD x.op), .int .u64 x.n, .str (strD x.name), kd]
/-- The cells of expressions. -/
def XS (es : List EX) (cs : List D) : Prop := ∀ i x, es[i]? = some x → ∃ kd rest, cs.drop (i * 5) = xc x kd ++ rest ∧ KD kd x.kids

theorem want_ev {E : Env} (x : EX) (kd : D) (hkd : KD kd x.kids) (h : H) : WC E TT 20 [.agg (xc x kd)] h fun d h' => d = .tup [.int .i64 (.ofNat (want x.kind).1.toNat), .v (.bool (want x.kind).2)] ∧ Gr h h' := by
  obtain ⟨kind, op, n, name, kids⟩ := x
  have hk := hkd.one
  have hc := hkd.cells
  refine wc_fn tt20 ?_
  simp only [ss, fargs_cons, fargs_nil, xc]
  by_cases e0 : kind = 0
  · subst e0
    have f0 : iEq 0 (.ofNat 0) = true := rfl
    repeat' (first | refine wp_skip ?_ | refine wp_exit ?_ | refine wp_ret ?_ | refine wp_seq ?_ | refine wp_cond ?_ | refine wp_block ?_ | refine wp_dreg ?_ | refine wp_reg ?_ | simp (maxSteps := 2000000) (disch := first | omega | (simp only [next_new, next_put]; omega) | fail) only [wr_mv, wr_len, wr_fa, wr_nil, wr_ext, wr_not, wr_ixs, wr_sl, wr_ld1, wr_ldN, wr_st, wr_alloc, wr_box, wr_mkmap, wr_int, wr_pick, wr_build, wr_buildSl, wr_look, wr_mk, wr_app, wr_sbin, wr_fog, wr_end, wd_mv, wd_fa, wd_nil, wd_ext, wd_ixs, wd_alloc, wd_build, wd_buildSl, wd_ld1, wd_ldN, wd_st, wd_mset, wd_app, wd_int, wd_end, sO_ok, sD_ok, sR_ok, sL_ok, sB_t, sB_f, sG_t, sG_f, kseq_n, kseq_r, kseq_e, kblk_n, kblk_r, kblk_e, kfn_n, kfn_r, sC_ok, kc_eq, kd_eq, oFa_ptr, oFa_ep, oNil_ptr, oNil_ep, oLen_sl, oLen_row, oLen_nil, oExt_0, oExt_1, oExt_2, okq_some, oNot_bool, oSl_nil, rc_ptr, rc_ep, oRd, oEp, oLd1_some, oLdN_some, oSt, oInt_int, oPick_b, oBuild_some, oBuildSl_some, ffill_nil, oFill_some, ffill, patch, oFind_some, oFind_none, oOne_some, oTwo_some, cfin_one, cfin_two, wanted_b, wanted_u, evs_nil, evs_cons, fargs_nil, fargs_cons, cells_int, cells_str, cells_agg, cells_sl, cells_row, cells_map, cells_ptr, cells_bool, cells_nil, one_nil, one_cons, one_int, one_str, one_sl, one_row, one_map, one_ptr, one_bool, one_vnil, deql, dneq, dlss, dgtr, dgeq, iEq_n, iLt_n, iLe, beq_dec, blt_dec, ble_dec, mem_nil, readOk_nil, readOk_rd, loudOk_nil, loudOk_loud, loudOk_none, List.drop_succ_cons, List.drop_zero, List.drop_nil, List.take_succ_cons, List.take_zero, List.take_nil, List.length_cons, List.length_nil, List.cons_append, List.nil_append, Nat.reduceAdd, Nat.reduceEqDiff, Nat.reduceLeDiff, decide_true, decide_false, Bool.and_self, Bool.and_true, Bool.true_and, Bool.not_true, Bool.not_false, cond_true, cond_false, true_and, and_true, Gt_St, p0_eq, kD_eq, reduceIte, Nat.add_zero, Nat.zero_add, next_new, next_put, hget_new_le, hget_new_ne, hget_put_same, hget_put_ne, hk, hc, f0])
    exact ⟨rfl, (Gr.refl h).new _⟩
  have f0 : iEq kind (.ofNat 0) = false := by rw [iEq_eq]; exact decide_eq_false e0
  by_cases e1 : kind = 1
  · subst e1
    have f1 : iEq 1 (.ofNat 1) = true := rfl
    repeat' (first | refine wp_skip ?_ | refine wp_exit ?_ | refine wp_ret ?_ | refine wp_seq ?_ | refine wp_cond ?_ | refine wp_block ?_ | refine wp_dreg ?_ | refine wp_reg ?_ | simp (maxSteps := 2000000) (disch := first | omega | (simp only [next_new, next_put]; omega) | fail) only [wr_mv, wr_len, wr_fa, wr_nil, wr_ext, wr_not, wr_ixs, wr_sl, wr_ld1, wr_ldN, wr_st, wr_alloc, wr_box, wr_mkmap, wr_int, wr_pick, wr_build, wr_buildSl, wr_look, wr_mk, wr_app, wr_sbin, wr_fog, wr_end, wd_mv, wd_fa, wd_nil, wd_ext, wd_ixs, wd_alloc, wd_build, wd_buildSl, wd_ld1, wd_ldN, wd_st, wd_mset, wd_app, wd_int, wd_end, sO_ok, sD_ok, sR_ok, sL_ok, sB_t, sB_f, sG_t, sG_f, kseq_n, kseq_r, kseq_e, kblk_n, kblk_r, kblk_e, kfn_n, kfn_r, sC_ok, kc_eq, kd_eq, oFa_ptr, oFa_ep, oNil_ptr, oNil_ep, oLen_sl, oLen_row, oLen_nil, oExt_0, oExt_1, oExt_2, okq_some, oNot_bool, oSl_nil, rc_ptr, rc_ep, oRd, oEp, oLd1_some, oLdN_some, oSt, oInt_int, oPick_b, oBuild_some, oBuildSl_some, ffill_nil, oFill_some, ffill, patch, oFind_some, oFind_none, oOne_some, oTwo_some, cfin_one, cfin_two, wanted_b, wanted_u, evs_nil, evs_cons, fargs_nil, fargs_cons, cells_int, cells_str, cells_agg, cells_sl, cells_row, cells_map, cells_ptr, cells_bool, cells_nil, one_nil, one_cons, one_int, one_str, one_sl, one_row, one_map, one_ptr, one_bool, one_vnil, deql, dneq, dlss, dgtr, dgeq, iEq_n, iLt_n, iLe, beq_dec, blt_dec, ble_dec, mem_nil, readOk_nil, readOk_rd, loudOk_nil, loudOk_loud, loudOk_none, List.drop_succ_cons, List.drop_zero, List.drop_nil, List.take_succ_cons, List.take_zero, List.take_nil, List.length_cons, List.length_nil, List.cons_append, List.nil_append, Nat.reduceAdd, Nat.reduceEqDiff, Nat.reduceLeDiff, decide_true, decide_false, Bool.and_self, Bool.and_true, Bool.true_and, Bool.not_true, Bool.not_false, cond_true, cond_false, true_and, and_true, Gt_St, p0_eq, kD_eq, reduceIte, Nat.add_zero, Nat.zero_add, next_new, next_put, hget_new_le, hget_new_ne, hget_put_same, hget_put_ne, hk, hc, f0, f1])
    exact ⟨rfl, (Gr.refl h).new _⟩
  have f1 : iEq kind (.ofNat 1) = false := by rw [iEq_eq]; exact decide_eq_false e1
  by_cases e2 : kind = 2
  · subst e2
    have f2 : iEq 2 (.ofNat 2) = true := rfl
    repeat' (first | refine wp_skip ?_ | refine wp_exit ?_ | refine wp_ret ?_ | refine wp_seq ?_ | refine wp_cond ?_ | refine wp_block ?_ | refine wp_dreg ?_ | refine wp_reg ?_ | simp (maxSteps := 2000000) (disch := first | omega | (simp only [next_new, next_put]; omega) | fail) only [wr_mv, wr_len, wr_fa, wr_nil, wr_ext, wr_not, wr_ixs, wr_sl, wr_ld1, wr_ldN, wr_st, wr_alloc, wr_box, wr_mkmap, wr_int, wr_pick, wr_build, wr_buildSl, wr_look, wr_mk, wr_app, wr_sbin, wr_fog, wr_end, wd_mv, wd_fa, wd_nil, wd_ext, wd_ixs, wd_alloc, wd_build, wd_buildSl, wd_ld1, wd_ldN, wd_st, wd_mset, wd_app, wd_int, wd_end, sO_ok, sD_ok, sR_ok, sL_ok, sB_t, sB_f, sG_t, sG_f, kseq_n, kseq_r, kseq_e, kblk_n, kblk_r, kblk_e, kfn_n, kfn_r, sC_ok, kc_eq, kd_eq, oFa_ptr, oFa_ep, oNil_ptr, oNil_ep, oLen_sl, oLen_row, oLen_nil, oExt_0, oExt_1, oExt_2, okq_some, oNot_bool, oSl_nil, rc_ptr, rc_ep, oRd, oEp, oLd1_some, oLdN_some, oSt, oInt_int, oPick_b, oBuild_some, oBuildSl_some, ffill_nil, oFill_some, ffill, patch, oFind_some, oFind_none, oOne_some, oTwo_some, cfin_one, cfin_two, wanted_b, wanted_u, evs_nil, evs_cons, fargs_nil, fargs_cons, cells_int, cells_str, cells_agg, cells_sl, cells_row, cells_map, cells_ptr, cells_bool, cells_nil, one_nil, one_cons, one_int, one_str, one_sl, one_row, one_map, one_ptr, one_bool, one_vnil, deql, dneq, dlss, dgtr, dgeq, iEq_n, iLt_n, iLe, beq_dec, blt_dec, ble_dec, mem_nil, readOk_nil, readOk_rd, loudOk_nil, loudOk_loud, loudOk_none, List.drop_succ_cons, List.drop_zero, List.drop_nil, List.take_succ_cons, List.take_zero, List.take_nil, List.length_cons, List.length_nil, List.cons_append, List.nil_append, Nat.reduceAdd, Nat.reduceEqDiff, Nat.reduceLeDiff, decide_true, decide_false, Bool.and_self, Bool.and_true, Bool.true_and, Bool.not_true, Bool.not_false, cond_true, cond_false, true_and, and_true, Gt_St, p0_eq, kD_eq, reduceIte, Nat.add_zero, Nat.zero_add, next_new, next_put, hget_new_le, hget_new_ne, hget_put_same, hget_put_ne, hk, hc, f0, f1, f2])
    exact ⟨rfl, (Gr.refl h).new _⟩
  have f2 : iEq kind (.ofNat 2) = false := by rw [iEq_eq]; exact decide_eq_false e2
  by_cases e3 : kind = 3
  · subst e3
    have f3 : iEq 3 (.ofNat 3) = true := rfl
    repeat' (first | refine wp_skip ?_ | refine wp_exit ?_ | refine wp_ret ?_ | refine wp_seq ?_ | refine wp_cond ?_ | refine wp_block ?_ | refine wp_dreg ?_ | refine wp_reg ?_ | simp (maxSteps := 2000000) (disch := first | omega | (simp only [next_new, next_put]; omega) | fail) only [wr_mv, wr_len, wr_fa, wr_nil, wr_ext, wr_not, wr_ixs, wr_sl, wr_ld1, wr_ldN, wr_st, wr_alloc, wr_box, wr_mkmap, wr_int, wr_pick, wr_build, wr_buildSl, wr_look, wr_mk, wr_app, wr_sbin, wr_fog, wr_end, wd_mv, wd_fa, wd_nil, wd_ext, wd_ixs, wd_alloc, wd_build, wd_buildSl, wd_ld1, wd_ldN, wd_st, wd_mset, wd_app, wd_int, wd_end, sO_ok, sD_ok, sR_ok, sL_ok, sB_t, sB_f, sG_t, sG_f, kseq_n, kseq_r, kseq_e, kblk_n, kblk_r, kblk_e, kfn_n, kfn_r, sC_ok, kc_eq, kd_eq, oFa_ptr, oFa_ep, oNil_ptr, oNil_ep, oLen_sl, oLen_row, oLen_nil, oExt_0, oExt_1, oExt_2, okq_some, oNot_bool, oSl_nil, rc_ptr, rc_ep, oRd, oEp, oLd1_some, oLdN_some, oSt, oInt_int, oPick_b, oBuild_some, oBuildSl_some, ffill_nil, oFill_some, ffill, patch, oFind_some, oFind_none, oOne_some, oTwo_some, cfin_one, cfin_two, wanted_b, wanted_u, evs_nil, evs_cons, fargs_nil, fargs_cons, cells_int, cells_str, cells_agg, cells_sl, cells_row, cells_map, cells_ptr, cells_bool, cells_nil, one_nil, one_cons, one_int, one_str, one_sl, one_row, one_map, one_ptr, one_bool, one_vnil, deql, dneq, dlss, dgtr, dgeq, iEq_n, iLt_n, iLe, beq_dec, blt_dec, ble_dec, mem_nil, readOk_nil, readOk_rd, loudOk_nil, loudOk_loud, loudOk_none, List.drop_succ_cons, List.drop_zero, List.drop_nil, List.take_succ_cons, List.take_zero, List.take_nil, List.length_cons, List.length_nil, List.cons_append, List.nil_append, Nat.reduceAdd, Nat.reduceEqDiff, Nat.reduceLeDiff, decide_true, decide_false, Bool.and_self, Bool.and_true, Bool.true_and, Bool.not_true, Bool.not_false, cond_true, cond_false, true_and, and_true, Gt_St, p0_eq, kD_eq, reduceIte, Nat.add_zero, Nat.zero_add, next_new, next_put, hget_new_le, hget_new_ne, hget_put_same, hget_put_ne, hk, hc, f0, f1, f2, f3])
    exact ⟨rfl, (Gr.refl h).new _⟩
  have f3 : iEq kind (.ofNat 3) = false := by rw [iEq_eq]; exact decide_eq_false e3
  repeat' (first | refine wp_skip ?_ | refine wp_exit ?_ | refine wp_ret ?_ | refine wp_seq ?_ | refine wp_cond ?_ | refine wp_block ?_ | refine wp_dreg ?_ | refine wp_reg ?_ | simp (maxSteps := 2000000) (disch := first | omega | (simp only [next_new, next_put]; omega) | fail) only [wr_mv, wr_len, wr_fa, wr_nil, wr_ext, wr_not, wr_ixs, wr_sl, wr_ld1, wr_ldN, wr_st, wr_alloc, wr_box, wr_mkmap, wr_int, wr_pick, wr_build, wr_buildSl, wr_look, wr_mk, wr_app, wr_sbin, wr_fog, wr_end, wd_mv, wd_fa, wd_nil, wd_ext, wd_ixs, wd_alloc, wd_build, wd_buildSl, wd_ld1, wd_ldN, wd_st, wd_mset, wd_app, wd_int, wd_end, sO_ok, sD_ok, sR_ok, sL_ok, sB_t, sB_f, sG_t, sG_f, kseq_n, kseq_r, kseq_e, kblk_n, kblk_r, kblk_e, kfn_n, kfn_r, sC_ok, kc_eq, kd_eq, oFa_ptr, oFa_ep, oNil_ptr, oNil_ep, oLen_sl, oLen_row, oLen_nil, oExt_0, oExt_1, oExt_2, okq_some, oNot_bool, oSl_nil, rc_ptr, rc_ep, oRd, oEp, oLd1_some, oLdN_some, oSt, oInt_int, oPick_b, oBuild_some, oBuildSl_some, ffill_nil, oFill_some, ffill, patch, oFind_some, oFind_none, oOne_some, oTwo_some, cfin_one, cfin_two, wanted_b, wanted_u, evs_nil, evs_cons, fargs_nil, fargs_cons, cells_int, cells_str, cells_agg, cells_sl, cells_row, cells_map, cells_ptr, cells_bool, cells_nil, one_nil, one_cons, one_int, one_str, one_sl, one_row, one_map, one_ptr, one_bool, one_vnil, deql, dneq, dlss, dgtr, dgeq, iEq_n, iLt_n, iLe, beq_dec, blt_dec, ble_dec, mem_nil, readOk_nil, readOk_rd, loudOk_nil, loudOk_loud, loudOk_none, List.drop_succ_cons, List.drop_zero, List.drop_nil, List.take_succ_cons, List.take_zero, List.take_nil, List.length_cons, List.length_nil, List.cons_append, List.nil_append, Nat.reduceAdd, Nat.reduceEqDiff, Nat.reduceLeDiff, decide_true, decide_false, Bool.and_self, Bool.and_true, Bool.true_and, Bool.not_true, Bool.not_false, cond_true, cond_false, true_and, and_true, Gt_St, p0_eq, kD_eq, reduceIte, Nat.add_zero, Nat.zero_add, next_new, next_put, hget_new_le, hget_new_ne, hget_put_same, hget_put_ne, hk, hc, f0, f1, f2, f3])
  refine ⟨?_, (Gr.refl h).new _⟩
  unfold want
  simp [e0, e1, e2, e3]
end Go.Abs.Sy
