/- calliperlaw11.vars, by rules. -/
import Derived.Test.YtadigpaglappbaaFiles
import Derived.Test.YtadigpaglappbaaVarsW
import Derived.Test.YtadigpaglappbaaExprN
set_option linter.unusedVariables false
set_option linter.unusedSimpArgs false
namespace Go.Abs.Sy
open Go.Abs.Run hiding op
open Go.Proofs.Ytadigpaglappbaa.Word Go.Proofs.Ytadigpaglappbaa.BoundsN Go.Proofs.Ytadigpaglappbaa.ExprN

abbrev VV := Go.Proofs.Ytadigpaglappbaa.VarsW.V
theorem minu_val {P : Program} (a b : Int) (cs : Array Bool) : val? P (builtin .min #[34, 34] 34 cs #[.int .u64 a, .int .u64 b]) = some (.value (.int .u64 (min a b))) := by
  have e : (if b < a then b else a) = min a b := by split <;> omega
  rw [← e]
  rfl
theorem maxu_val {P : Program} (a b : Int) (cs : Array Bool) : val? P (builtin .max #[34, 34] 34 cs #[.int .u64 a, .int .u64 b]) = some (.value (.int .u64 (max a b))) := by
  have e : (if b > a then b else a) = max a b := by split <;> omega
  rw [← e]
  rfl
theorem minu_bi {E : Env} {c : Call} {a : AAct} {h : H} (m n : Int) (cs : Array Bool) : r_bi .min #[34, 34] 34 cs [.d (.int .u64 m), .d (.int .u64 n)] E c a h = .ok (.int .u64 (min m n)) h := by
  simp only [r_bi, AAct.evals, AAct.eval, plains, D.plain, D.plain0, D.plain1]
  have := minu_val (P := E.P) m n cs
  simp only [this]
  rfl
theorem maxu_bi {E : Env} {c : Call} {a : AAct} {h : H} (m n : Int) (cs : Array Bool) : r_bi .max #[34, 34] 34 cs [.d (.int .u64 m), .d (.int .u64 n)] E c a h = .ok (.int .u64 (max m n)) h := by
  simp only [r_bi, AAct.evals, AAct.eval, plains, D.plain, D.plain0, D.plain1]
  have := maxu_val (P := E.P) m n cs
  simp only [this]
  rfl
def vc (v : VV) : List D := [.str (strD v.name), .int .u64 v.lo, .int .u64 v.hi, .int .u64 v.n]
def VD (d : D) (vs : List VV) : Prop := (vs = [] ∧ d = .v (.slice none 0 0)) ∨ ∃ id cs, d = .sl id vs.length cs ∧ ∀ i v, vs[i]? = some v → ∃ rest, cs.drop (i * 4) = vc v ++ rest
theorem VD.len {d : D} {vs : List VV} (hx : VD d vs) (h : H) : oLen d h = .ok (.int .i64 (.ofNat vs.length)) h := by rcases hx with ⟨rfl, rfl⟩ | ⟨id, cs, rfl, _⟩ <;> rfl
theorem VD.head {d : D} {vs : List VV} (hx : VD d vs) {m : Nat} (hm : m ≤ vs.length) : ∃ td, (∀ h, oSl 4 d (.int .i64 (.ofNat m)) h = .ok td h) ∧ (∀ h, oLen td h = .ok (.int .i64 (.ofNat m)) h) ∧
    ∀ i, i < m → ∃ v rest, vs[i]? = some v ∧ ∀ h, oIxs 4 td (.int .i64 (.ofNat i)) h = .ok (.ep (vc v ++ rest)) h := by
  rcases hx with ⟨rfl, rfl⟩ | ⟨id, cs, rfl, hcs⟩
  · have : m = 0 := by simpa using hm
    subst this
    exact ⟨_, fun h => oSl_nil, fun h => oLen_nil, fun i hi => by omega⟩
  · obtain ⟨id', cs', h1, h2⟩ := headSl_at (size := 4) (id := id) (n := vs.length) (m := m) (cs := cs) hm
    refine ⟨.sl id' m cs', fun h => by rw [oSl_sl hm, h1], fun h => oLen_sl, fun i hi => ?_⟩
    have hi' : i < vs.length := by omega
    obtain ⟨rest, h3⟩ := hcs i _ (List.getElem?_eq_getElem hi')
    obtain ⟨rest', h5⟩ := h2 i _ rest h3 rfl hi
    exact ⟨_, rest', List.getElem?_eq_getElem hi', fun h => oIxs_sl hi (by rw [h5]; rfl)⟩
def acD (vs : List VV) : List D := vs.flatMap fun v => [.str (strD v.name), .int .u64 v.lo, .int .u64 v.hi]
def ecD (vs : List VV) : List D := vs.flatMap fun v => [.str (strD v.name), .int .u64 (max v.lo (min v.n v.hi))]
theorem acD_len : ∀ vs : List VV, (acD vs).length = vs.length * 3
  | [] => rfl
  | v :: r => by
    have := acD_len r
    simp only [acD, List.flatMap_cons, List.length_append, List.length_cons, List.length_nil] at this ⊢
    omega
theorem ecD_len : ∀ vs : List VV, (ecD vs).length = vs.length * 2
  | [] => rfl
  | v :: r => by
    have := ecD_len r
    simp only [ecD, List.flatMap_cons, List.length_append, List.length_cons, List.length_nil] at this ⊢
    omega
theorem acD_snoc (vs : List VV) (v : VV) : acD (vs ++ [v]) = acD vs ++ [.str (strD v.name), .int .u64 v.lo, .int .u64 v.hi] := by unfold acD; rw [List.flatMap_append]; rfl
theorem ecD_snoc (vs : List VV) (v : VV) : ecD (vs ++ [v]) = ecD vs ++ [.str (strD v.name), .int .u64 (max v.lo (min v.n v.hi))] := by unfold ecD; rw [List.flatMap_append]; rfl
/-- A slice that is being made. -/
def Grow2 (n0 : Nat) (h : H) (e size : Nat) (i k : Nat) (cs : List D) (d : D) : Prop := (i = 0 ∧ d = .v (.slice none 0 0) ∧ cs = []) ∨ (0 < i ∧ d = .sl k i cs ∧ hget h.mem k = some (.tip i e) ∧ cs.length = i * size ∧ n0 ≤ k ∧ k < h.next)
def FVI (vs : List VV) (m : Nat) (td : D) (ha : H) (_ : Tr D) (_ : H) (n : Nat) (t : Tr D) (h : H) : Prop :=
  ∃ i ka kb ke csb ad bd ed, i ≤ m ∧ n = m - i ∧ Gt 14 t = td ∧ Gt 15 t = .int .i64 (.ofNat m) ∧ Gt 16 t = .int .i64 (.ofNat i) ∧ Gt 5 t = ad ∧ Gt 6 t = bd ∧ Gt 7 t = ed ∧
    Grow2 ha.next h 41 3 i ka (acD (vs.take i)) ad ∧ Grow2 ha.next h 67 3 i kb csb bd ∧ Grow2 ha.next h 39 2 i ke (ecD (vs.take i)) ed ∧ (i ≠ 0 → ka ≠ kb ∧ ka ≠ ke ∧ kb ≠ ke) ∧ Gr ha h
/-- A slice of these cells, new or none. -/
def RowD (d : D) (n : Nat) (cs : List D) : Prop := (n = 0 ∧ d = .v (.slice none 0 0) ∧ cs = []) ∨ ∃ k, d = .sl k n cs
set_option maxHeartbeats 4000000 in
theorem vars_ev {E : Env} {vs : List VV} {ld : D} (hld : VD ld vs) (ha : H) : WC E TT 7 [ld] ha fun d h' => ∃ ad bd ed, d = .tup [ad, bd, ed] ∧ RowD ad (vs.take 20).length (acD (vs.take 20)) ∧ RowD ed (vs.take 20).length (ecD (vs.take 20)) ∧ Gr ha h' := by
  have x1 := hld.len
  obtain ⟨td, x4, x5, x6⟩ := hld.head (m := min vs.length 20) (Nat.min_le_left _ _)
  have h60 : min vs.length 20 ≤ 20 := Nat.min_le_right _ _
  have hle : min vs.length 20 ≤ vs.length := Nat.min_le_left _ _
  have hfile : vs.take 20 = vs.take (min vs.length 20) := by
    rw [← List.take_take]
    exact (List.take_of_length_le (by rw [List.length_take]; omega)).symm
  generalize hm : min vs.length 20 = m at *
  refine wc_fn tt7 ?_
  simp only [ss, fargs_cons, fargs_nil]
  repeat' (first | refine wp_skip ?_ | refine wp_exit ?_ | refine wp_ret ?_ | refine wp_seq ?_ | refine wp_cond ?_ | refine wp_block ?_ | refine wp_dreg ?_ | refine wp_reg ?_ | simp (maxSteps := 2000000) (disch := first | omega | (simp only [next_new, next_put]; omega) | fail) only [wr_mv, wr_len, wr_fa, wr_nil, wr_ext, wr_not, wr_ixs, wr_sl, wr_ld1, wr_ldN, wr_st, wr_alloc, wr_box, wr_mkmap, wr_int, wr_pick, wr_build, wr_buildSl, wr_look, wr_mk, wr_app, wr_sbin, wr_fog, wr_end, wd_mv, wd_fa, wd_nil, wd_ext, wd_ixs, wd_alloc, wd_build, wd_buildSl, wd_ld1, wd_ldN, wd_st, wd_mset, wd_app, wd_int, wd_end, sO_ok, sD_ok, sR_ok, sL_ok, sB_t, sB_f, sG_t, sG_f, kseq_n, kseq_r, kseq_e, kblk_n, kblk_r, kblk_e, kfn_n, kfn_r, sC_ok, kc_eq, kd_eq, oFa_ptr, oFa_ep, oNil_ptr, oNil_ep, oLen_sl, oLen_row, oLen_nil, oExt_0, oExt_1, oExt_2, okq_some, oNot_bool, oSl_nil, rc_ptr, rc_ep, oRd, oEp, oLd1_some, oLdN_some, oSt, oInt_int, oPick_b, oBuild_some, oBuildSl_some, ffill_nil, oFill_some, ffill, patch, oFind_some, oFind_none, oOne_some, oTwo_some, cfin_one, cfin_two, wanted_b, wanted_u, evs_nil, evs_cons, fargs_nil, fargs_cons, cells_int, cells_str, cells_agg, cells_sl, cells_row, cells_map, cells_ptr, cells_bool, cells_nil, one_nil, one_cons, one_int, one_str, one_sl, one_row, one_map, one_ptr, one_bool, one_vnil, deql, dneq, dlss, dgtr, dgeq, iEq_n, iLt_n, iLe, beq_dec, blt_dec, ble_dec, mem_nil, readOk_nil, readOk_rd, loudOk_nil, loudOk_loud, loudOk_none, List.drop_succ_cons, List.drop_zero, List.drop_nil, List.take_succ_cons, List.take_zero, List.take_nil, List.length_cons, List.length_nil, List.cons_append, List.nil_append, Nat.reduceAdd, Nat.reduceEqDiff, Nat.reduceLeDiff, decide_true, decide_false, Bool.and_self, Bool.and_true, Bool.true_and, Bool.not_true, Bool.not_false, cond_true, cond_false, true_and, and_true, Gt_St, p0_eq, kD_eq, reduceIte, Nat.add_zero, Nat.zero_add, next_new, next_put, hget_new_le, hget_new_ne, hget_put_same, hget_put_ne, hm, x1, x4, x5, wr_bi, min_bi, List.map_cons, List.map_nil])
  refine wp_loopC (FVI vs m td ha) m ?_ ?_
  · refine ⟨0, 0, 0, 0, [], _, _, _, Nat.zero_le _, rfl, ?_, ?_, ?_, ?_, ?_, ?_, .inl ⟨rfl, rfl, rfl⟩, .inl ⟨rfl, rfl, rfl⟩, .inl ⟨rfl, rfl, rfl⟩, fun h => absurd rfl h, Gr.refl ha⟩
    all_goals simp (maxSteps := 2000000) (disch := first | omega | (simp only [next_new, next_put]; omega) | fail) only [wr_mv, wr_len, wr_fa, wr_nil, wr_ext, wr_not, wr_ixs, wr_sl, wr_ld1, wr_ldN, wr_st, wr_alloc, wr_box, wr_mkmap, wr_int, wr_pick, wr_build, wr_buildSl, wr_look, wr_mk, wr_app, wr_sbin, wr_fog, wr_end, wd_mv, wd_fa, wd_nil, wd_ext, wd_ixs, wd_alloc, wd_build, wd_buildSl, wd_ld1, wd_ldN, wd_st, wd_mset, wd_app, wd_int, wd_end, sO_ok, sD_ok, sR_ok, sL_ok, sB_t, sB_f, sG_t, sG_f, kseq_n, kseq_r, kseq_e, kblk_n, kblk_r, kblk_e, kfn_n, kfn_r, sC_ok, kc_eq, kd_eq, oFa_ptr, oFa_ep, oNil_ptr, oNil_ep, oLen_sl, oLen_row, oLen_nil, oExt_0, oExt_1, oExt_2, okq_some, oNot_bool, oSl_nil, rc_ptr, rc_ep, oRd, oEp, oLd1_some, oLdN_some, oSt, oInt_int, oPick_b, oBuild_some, oBuildSl_some, ffill_nil, oFill_some, ffill, patch, oFind_some, oFind_none, oOne_some, oTwo_some, cfin_one, cfin_two, wanted_b, wanted_u, evs_nil, evs_cons, fargs_nil, fargs_cons, cells_int, cells_str, cells_agg, cells_sl, cells_row, cells_map, cells_ptr, cells_bool, cells_nil, one_nil, one_cons, one_int, one_str, one_sl, one_row, one_map, one_ptr, one_bool, one_vnil, deql, dneq, dlss, dgtr, dgeq, iEq_n, iLt_n, iLe, beq_dec, blt_dec, ble_dec, mem_nil, readOk_nil, readOk_rd, loudOk_nil, loudOk_loud, loudOk_none, List.drop_succ_cons, List.drop_zero, List.drop_nil, List.take_succ_cons, List.take_zero, List.take_nil, List.length_cons, List.length_nil, List.cons_append, List.nil_append, Nat.reduceAdd, Nat.reduceEqDiff, Nat.reduceLeDiff, decide_true, decide_false, Bool.and_self, Bool.and_true, Bool.true_and, Bool.not_true, Bool.not_false, cond_true, cond_false, true_and, and_true, Gt_St, p0_eq, kD_eq, reduceIte, Nat.add_zero, Nat.zero_add, next_new, next_put, hget_new_le, hget_new_ne, hget_put_same, hget_put_ne]
  rintro n t h ⟨i, ka, kb, ke, csb, ad, bd, ed, hi, rfl, g14, g15, g16, g5, g6, g7, hA, hB, hE, hne, hgr⟩
  by_cases him : i < m
  rotate_left
  · have e : i = m := by omega
    subst e
    have hd : decide (i < i) = false := decide_eq_false (by omega)
    repeat' (first | refine wp_skip ?_ | refine wp_exit ?_ | refine wp_ret ?_ | refine wp_seq ?_ | refine wp_cond ?_ | refine wp_block ?_ | refine wp_dreg ?_ | refine wp_reg ?_ | simp (maxSteps := 2000000) (disch := first | omega | (simp only [next_new, next_put]; omega) | fail) only [wr_mv, wr_len, wr_fa, wr_nil, wr_ext, wr_not, wr_ixs, wr_sl, wr_ld1, wr_ldN, wr_st, wr_alloc, wr_box, wr_mkmap, wr_int, wr_pick, wr_build, wr_buildSl, wr_look, wr_mk, wr_app, wr_sbin, wr_fog, wr_end, wd_mv, wd_fa, wd_nil, wd_ext, wd_ixs, wd_alloc, wd_build, wd_buildSl, wd_ld1, wd_ldN, wd_st, wd_mset, wd_app, wd_int, wd_end, sO_ok, sD_ok, sR_ok, sL_ok, sB_t, sB_f, sG_t, sG_f, kseq_n, kseq_r, kseq_e, kblk_n, kblk_r, kblk_e, kfn_n, kfn_r, sC_ok, kc_eq, kd_eq, oFa_ptr, oFa_ep, oNil_ptr, oNil_ep, oLen_sl, oLen_row, oLen_nil, oExt_0, oExt_1, oExt_2, okq_some, oNot_bool, oSl_nil, rc_ptr, rc_ep, oRd, oEp, oLd1_some, oLdN_some, oSt, oInt_int, oPick_b, oBuild_some, oBuildSl_some, ffill_nil, oFill_some, ffill, patch, oFind_some, oFind_none, oOne_some, oTwo_some, cfin_one, cfin_two, wanted_b, wanted_u, evs_nil, evs_cons, fargs_nil, fargs_cons, cells_int, cells_str, cells_agg, cells_sl, cells_row, cells_map, cells_ptr, cells_bool, cells_nil, one_nil, one_cons, one_int, one_str, one_sl, one_row, one_map, one_ptr, one_bool, one_vnil, deql, dneq, dlss, dgtr, dgeq, iEq_n, iLt_n, iLe, beq_dec, blt_dec, ble_dec, mem_nil, readOk_nil, readOk_rd, loudOk_nil, loudOk_loud, loudOk_none, List.drop_succ_cons, List.drop_zero, List.drop_nil, List.take_succ_cons, List.take_zero, List.take_nil, List.length_cons, List.length_nil, List.cons_append, List.nil_append, Nat.reduceAdd, Nat.reduceEqDiff, Nat.reduceLeDiff, decide_true, decide_false, Bool.and_self, Bool.and_true, Bool.true_and, Bool.not_true, Bool.not_false, cond_true, cond_false, true_and, and_true, Gt_St, p0_eq, kD_eq, reduceIte, Nat.add_zero, Nat.zero_add, next_new, next_put, hget_new_le, hget_new_ne, hget_put_same, hget_put_ne, g14, g15, g16, g5, g6, g7, hd, kloop_n, kloop_e])
    have hl : (vs.take i).length = i := by rw [List.length_take]; omega
    rw [hfile, hl]
    refine ⟨ad, bd, ed, rfl, ?_, ?_, hgr⟩
    · rcases hA with ⟨h0, rfl, h1⟩ | ⟨_, rfl, _⟩
      · exact .inl ⟨h0, rfl, h1⟩
      · exact .inr ⟨ka, rfl⟩
    · rcases hE with ⟨h0, rfl, h1⟩ | ⟨_, rfl, _⟩
      · exact .inl ⟨h0, rfl, h1⟩
      · exact .inr ⟨ke, rfl⟩
  obtain ⟨v, rest, hv0, hix⟩ := x6 i him
  have hd : decide (i < m) = true := decide_eq_true him
  have hq := hgr.1
  simp only [vc] at hix
  have hsn : vs.take (i + 1) = vs.take i ++ [v] := by rw [List.take_add_one, hv0]; rfl
  have hsa : acD (vs.take (i + 1)) = acD (vs.take i) ++ [.str (strD v.name), .int .u64 v.lo, .int .u64 v.hi] := by rw [hsn, acD_snoc]
  have hse : ecD (vs.take (i + 1)) = ecD (vs.take i) ++ [.str (strD v.name), .int .u64 (max v.lo (min v.n v.hi))] := by rw [hsn, ecD_snoc]
  rcases hA with ⟨h0, rfl, hA0⟩ | ⟨h0, rfl, hA1, hA2, hA3, hA4⟩
  · subst h0
    rcases hB with ⟨_, rfl, rfl⟩ | ⟨h0, _⟩
    rotate_left
    · omega
    rcases hE with ⟨_, rfl, hE0⟩ | ⟨h0, _⟩
    rotate_left
    · omega
    repeat' (first | refine wp_skip ?_ | refine wp_exit ?_ | refine wp_ret ?_ | refine wp_seq ?_ | refine wp_cond ?_ | refine wp_block ?_ | refine wp_dreg ?_ | refine wp_reg ?_ | simp (maxSteps := 2000000) (disch := first | omega | (simp only [next_new, next_put]; omega) | fail) only [wr_mv, wr_len, wr_fa, wr_nil, wr_ext, wr_not, wr_ixs, wr_sl, wr_ld1, wr_ldN, wr_st, wr_alloc, wr_box, wr_mkmap, wr_int, wr_pick, wr_build, wr_buildSl, wr_look, wr_mk, wr_app, wr_sbin, wr_fog, wr_end, wd_mv, wd_fa, wd_nil, wd_ext, wd_ixs, wd_alloc, wd_build, wd_buildSl, wd_ld1, wd_ldN, wd_st, wd_mset, wd_app, wd_int, wd_end, sO_ok, sD_ok, sR_ok, sL_ok, sB_t, sB_f, sG_t, sG_f, kseq_n, kseq_r, kseq_e, kblk_n, kblk_r, kblk_e, kfn_n, kfn_r, sC_ok, kc_eq, kd_eq, oFa_ptr, oFa_ep, oNil_ptr, oNil_ep, oLen_sl, oLen_row, oLen_nil, oExt_0, oExt_1, oExt_2, okq_some, oNot_bool, oSl_nil, rc_ptr, rc_ep, oRd, oEp, oLd1_some, oLdN_some, oSt, oInt_int, oPick_b, oBuild_some, oBuildSl_some, ffill_nil, oFill_some, ffill, patch, oFind_some, oFind_none, oOne_some, oTwo_some, cfin_one, cfin_two, wanted_b, wanted_u, evs_nil, evs_cons, fargs_nil, fargs_cons, cells_int, cells_str, cells_agg, cells_sl, cells_row, cells_map, cells_ptr, cells_bool, cells_nil, one_nil, one_cons, one_int, one_str, one_sl, one_row, one_map, one_ptr, one_bool, one_vnil, deql, dneq, dlss, dgtr, dgeq, iEq_n, iLt_n, iLe, beq_dec, blt_dec, ble_dec, mem_nil, readOk_nil, readOk_rd, loudOk_nil, loudOk_loud, loudOk_none, List.drop_succ_cons, List.drop_zero, List.drop_nil, List.take_succ_cons, List.take_zero, List.take_nil, List.length_cons, List.length_nil, List.cons_append, List.nil_append, Nat.reduceAdd, Nat.reduceEqDiff, Nat.reduceLeDiff, decide_true, decide_false, Bool.and_self, Bool.and_true, Bool.true_and, Bool.not_true, Bool.not_false, cond_true, cond_false, true_and, and_true, Gt_St, p0_eq, kD_eq, reduceIte, Nat.add_zero, Nat.zero_add, next_new, next_put, hget_new_le, hget_new_ne, hget_put_same, hget_put_ne, g14, g15, g16, g5, g6, g7, hd, kloop_n, kloop_e, hix, wr_bi, minu_bi, maxu_bi, List.map_cons, List.map_nil, oApp_unf, oApp_unil, Nat.reduceMul, add_small])
    refine ⟨m - (0 + 1), by omega, 0 + 1, h.next + 1 + 1, h.next + 1 + 1 + 1 + 1, h.next + 1 + 1 + 1 + 1 + 1 + 1, [.str (strD v.name), .int .u64 v.lo, .int .u64 v.hi], _, _, _, by omega, rfl, ?_, ?_, ?_, ?_, ?_, ?_, .inr ⟨by omega, rfl, ?_, ?_, ?_, ?_⟩, .inr ⟨by omega, rfl, ?_, rfl, ?_, ?_⟩, .inr ⟨by omega, rfl, ?_, ?_, ?_, ?_⟩, fun _ => ⟨by omega, by omega, by omega⟩, ?_⟩
    all_goals try rw [hsa, hA0]
    all_goals try rw [hse, hE0]
    all_goals try simp (maxSteps := 2000000) (disch := first | omega | (simp only [next_new, next_put]; omega) | fail) only [wr_mv, wr_len, wr_fa, wr_nil, wr_ext, wr_not, wr_ixs, wr_sl, wr_ld1, wr_ldN, wr_st, wr_alloc, wr_box, wr_mkmap, wr_int, wr_pick, wr_build, wr_buildSl, wr_look, wr_mk, wr_app, wr_sbin, wr_fog, wr_end, wd_mv, wd_fa, wd_nil, wd_ext, wd_ixs, wd_alloc, wd_build, wd_buildSl, wd_ld1, wd_ldN, wd_st, wd_mset, wd_app, wd_int, wd_end, sO_ok, sD_ok, sR_ok, sL_ok, sB_t, sB_f, sG_t, sG_f, kseq_n, kseq_r, kseq_e, kblk_n, kblk_r, kblk_e, kfn_n, kfn_r, sC_ok, kc_eq, kd_eq, oFa_ptr, oFa_ep, oNil_ptr, oNil_ep, oLen_sl, oLen_row, oLen_nil, oExt_0, oExt_1, oExt_2, okq_some, oNot_bool, oSl_nil, rc_ptr, rc_ep, oRd, oEp, oLd1_some, oLdN_some, oSt, oInt_int, oPick_b, oBuild_some, oBuildSl_some, ffill_nil, oFill_some, ffill, patch, oFind_some, oFind_none, oOne_some, oTwo_some, cfin_one, cfin_two, wanted_b, wanted_u, evs_nil, evs_cons, fargs_nil, fargs_cons, cells_int, cells_str, cells_agg, cells_sl, cells_row, cells_map, cells_ptr, cells_bool, cells_nil, one_nil, one_cons, one_int, one_str, one_sl, one_row, one_map, one_ptr, one_bool, one_vnil, deql, dneq, dlss, dgtr, dgeq, iEq_n, iLt_n, iLe, beq_dec, blt_dec, ble_dec, mem_nil, readOk_nil, readOk_rd, loudOk_nil, loudOk_loud, loudOk_none, List.drop_succ_cons, List.drop_zero, List.drop_nil, List.take_succ_cons, List.take_zero, List.take_nil, List.length_cons, List.length_nil, List.cons_append, List.nil_append, Nat.reduceAdd, Nat.reduceEqDiff, Nat.reduceLeDiff, decide_true, decide_false, Bool.and_self, Bool.and_true, Bool.true_and, Bool.not_true, Bool.not_false, cond_true, cond_false, true_and, and_true, Gt_St, p0_eq, kD_eq, reduceIte, Nat.add_zero, Nat.zero_add, next_new, next_put, hget_new_le, hget_new_ne, hget_put_same, hget_put_ne, g14, g15, g16]
    all_goals try (simp only [next_new, next_put]; omega)
    all_goals try omega
    exact (((((((hgr.new _).put (by omega) _).new _).new _).new _).new _).new _).new _
  · rcases hB with ⟨e0, _⟩ | ⟨_, rfl, hB1, hB2, hB3, hB4⟩
    · omega
    rcases hE with ⟨e0, _⟩ | ⟨_, rfl, hE1, hE2, hE3, hE4⟩
    · omega
    obtain ⟨ne1, ne2, ne3⟩ := hne (by omega)
    have hapA : ∀ H, oTip (some (.tip i 41)) 41 3 32 ka i 1 (acD (vs.take i)) [.str (strD v.name), .int .u64 v.lo, .int .u64 v.hi] H = .ok (.sl ka (i + 1) (acD (vs.take i) ++ [.str (strD v.name), .int .u64 v.lo, .int .u64 v.hi])) (fput' H ka (.tip (i + 1) 41)) := fun H => oTip_ok hA2 (by omega) (by omega)
    have hapB : ∀ H, oTip (some (.tip i 67)) 67 3 32 kb i 1 csb [.str (strD v.name), .int .u64 v.lo, .int .u64 v.hi] H = .ok (.sl kb (i + 1) (csb ++ [.str (strD v.name), .int .u64 v.lo, .int .u64 v.hi])) (fput' H kb (.tip (i + 1) 67)) := fun H => oTip_ok hB2 (by omega) (by omega)
    have hapE : ∀ H, oTip (some (.tip i 39)) 39 2 24 ke i 1 (ecD (vs.take i)) [.str (strD v.name), .int .u64 (max v.lo (min v.n v.hi))] H = .ok (.sl ke (i + 1) (ecD (vs.take i) ++ [.str (strD v.name), .int .u64 (max v.lo (min v.n v.hi))])) (fput' H ke (.tip (i + 1) 39)) := fun H => oTip_ok hE2 (by omega) (by omega)
    repeat' (first | refine wp_skip ?_ | refine wp_exit ?_ | refine wp_ret ?_ | refine wp_seq ?_ | refine wp_cond ?_ | refine wp_block ?_ | refine wp_dreg ?_ | refine wp_reg ?_ | simp (maxSteps := 2000000) (disch := first | omega | (simp only [next_new, next_put]; omega) | fail) only [wr_mv, wr_len, wr_fa, wr_nil, wr_ext, wr_not, wr_ixs, wr_sl, wr_ld1, wr_ldN, wr_st, wr_alloc, wr_box, wr_mkmap, wr_int, wr_pick, wr_build, wr_buildSl, wr_look, wr_mk, wr_app, wr_sbin, wr_fog, wr_end, wd_mv, wd_fa, wd_nil, wd_ext, wd_ixs, wd_alloc, wd_build, wd_buildSl, wd_ld1, wd_ldN, wd_st, wd_mset, wd_app, wd_int, wd_end, sO_ok, sD_ok, sR_ok, sL_ok, sB_t, sB_f, sG_t, sG_f, kseq_n, kseq_r, kseq_e, kblk_n, kblk_r, kblk_e, kfn_n, kfn_r, sC_ok, kc_eq, kd_eq, oFa_ptr, oFa_ep, oNil_ptr, oNil_ep, oLen_sl, oLen_row, oLen_nil, oExt_0, oExt_1, oExt_2, okq_some, oNot_bool, oSl_nil, rc_ptr, rc_ep, oRd, oEp, oLd1_some, oLdN_some, oSt, oInt_int, oPick_b, oBuild_some, oBuildSl_some, ffill_nil, oFill_some, ffill, patch, oFind_some, oFind_none, oOne_some, oTwo_some, cfin_one, cfin_two, wanted_b, wanted_u, evs_nil, evs_cons, fargs_nil, fargs_cons, cells_int, cells_str, cells_agg, cells_sl, cells_row, cells_map, cells_ptr, cells_bool, cells_nil, one_nil, one_cons, one_int, one_str, one_sl, one_row, one_map, one_ptr, one_bool, one_vnil, deql, dneq, dlss, dgtr, dgeq, iEq_n, iLt_n, iLe, beq_dec, blt_dec, ble_dec, mem_nil, readOk_nil, readOk_rd, loudOk_nil, loudOk_loud, loudOk_none, List.drop_succ_cons, List.drop_zero, List.drop_nil, List.take_succ_cons, List.take_zero, List.take_nil, List.length_cons, List.length_nil, List.cons_append, List.nil_append, Nat.reduceAdd, Nat.reduceEqDiff, Nat.reduceLeDiff, decide_true, decide_false, Bool.and_self, Bool.and_true, Bool.true_and, Bool.not_true, Bool.not_false, cond_true, cond_false, true_and, and_true, Gt_St, p0_eq, kD_eq, reduceIte, Nat.add_zero, Nat.zero_add, next_new, next_put, hget_new_le, hget_new_ne, hget_put_same, hget_put_ne, g14, g15, g16, g5, g6, g7, hd, kloop_n, kloop_e, hix, wr_bi, minu_bi, maxu_bi, List.map_cons, List.map_nil, oApp_unf, oApp_unil, hA1, hB1, hE1, hapA, hapB, hapE, Nat.reduceMul, add_small])
    refine ⟨m - (i + 1), by omega, i + 1, ka, kb, ke, csb ++ [.str (strD v.name), .int .u64 v.lo, .int .u64 v.hi], _, _, _, by omega, rfl, ?_, ?_, ?_, ?_, ?_, ?_, .inr ⟨by omega, rfl, ?_, ?_, ?_, ?_⟩, .inr ⟨by omega, rfl, ?_, ?_, ?_, ?_⟩, .inr ⟨by omega, rfl, ?_, ?_, ?_, ?_⟩, fun _ => ⟨ne1, ne2, ne3⟩, ?_⟩
    all_goals try rw [hsa]
    all_goals try rw [hse]
    all_goals try simp (maxSteps := 2000000) (disch := first | omega | (simp only [next_new, next_put]; omega) | fail) only [wr_mv, wr_len, wr_fa, wr_nil, wr_ext, wr_not, wr_ixs, wr_sl, wr_ld1, wr_ldN, wr_st, wr_alloc, wr_box, wr_mkmap, wr_int, wr_pick, wr_build, wr_buildSl, wr_look, wr_mk, wr_app, wr_sbin, wr_fog, wr_end, wd_mv, wd_fa, wd_nil, wd_ext, wd_ixs, wd_alloc, wd_build, wd_buildSl, wd_ld1, wd_ldN, wd_st, wd_mset, wd_app, wd_int, wd_end, sO_ok, sD_ok, sR_ok, sL_ok, sB_t, sB_f, sG_t, sG_f, kseq_n, kseq_r, kseq_e, kblk_n, kblk_r, kblk_e, kfn_n, kfn_r, sC_ok, kc_eq, kd_eq, oFa_ptr, oFa_ep, oNil_ptr, oNil_ep, oLen_sl, oLen_row, oLen_nil, oExt_0, oExt_1, oExt_2, okq_some, oNot_bool, oSl_nil, rc_ptr, rc_ep, oRd, oEp, oLd1_some, oLdN_some, oSt, oInt_int, oPick_b, oBuild_some, oBuildSl_some, ffill_nil, oFill_some, ffill, patch, oFind_some, oFind_none, oOne_some, oTwo_some, cfin_one, cfin_two, wanted_b, wanted_u, evs_nil, evs_cons, fargs_nil, fargs_cons, cells_int, cells_str, cells_agg, cells_sl, cells_row, cells_map, cells_ptr, cells_bool, cells_nil, one_nil, one_cons, one_int, one_str, one_sl, one_row, one_map, one_ptr, one_bool, one_vnil, deql, dneq, dlss, dgtr, dgeq, iEq_n, iLt_n, iLe, beq_dec, blt_dec, ble_dec, mem_nil, readOk_nil, readOk_rd, loudOk_nil, loudOk_loud, loudOk_none, List.drop_succ_cons, List.drop_zero, List.drop_nil, List.take_succ_cons, List.take_zero, List.take_nil, List.length_cons, List.length_nil, List.cons_append, List.nil_append, Nat.reduceAdd, Nat.reduceEqDiff, Nat.reduceLeDiff, decide_true, decide_false, Bool.and_self, Bool.and_true, Bool.true_and, Bool.not_true, Bool.not_false, cond_true, cond_false, true_and, and_true, Gt_St, p0_eq, kD_eq, reduceIte, Nat.add_zero, Nat.zero_add, next_new, next_put, hget_new_le, hget_new_ne, hget_put_same, hget_put_ne, g14, g15, g16]
    all_goals try (simp only [next_new, next_put]; omega)
    all_goals try omega
    · simp only [List.length_append, hA2, List.length_cons, List.length_nil]; omega
    · simp only [List.length_append, hB2, List.length_cons, List.length_nil]; omega
    · simp only [List.length_append, hE2, List.length_cons, List.length_nil]; omega
    · exact (((((((hgr.new _).put (by omega) _).new _).put (by omega) _).new _).put (by omega) _).new _).put (by omega) _
end Go.Abs.Sy
