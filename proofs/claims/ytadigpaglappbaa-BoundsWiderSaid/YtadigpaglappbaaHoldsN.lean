/- The law BoundsHolds, by rules. -/
import Derived.Test.YtadigpaglappbaaVarsS
import Derived.Test.YtadigpaglappbaaExprN
set_option linter.unusedVariables false
set_option linter.unusedSimpArgs false
namespace Go.Abs.Sy
open Go.Abs.Run hiding op
open Go.Proofs.Ytadigpaglappbaa.Word Go.Proofs.Ytadigpaglappbaa.BoundsN Go.Proofs.Ytadigpaglappbaa.ExprN

open Go.Proofs.Ytadigpaglappbaa.BoundsL
/-! The names' numbers and ranges. -/
def lastV (s : ByteArray) : Option VV → List VV → Option VV
  | a, [] => a
  | a, v :: r => lastV s (if v.name = s then some v else a) r
def envN (vs : List VV) (s : ByteArray) : Option Int := (lastV s none vs).map fun v => max v.lo (min v.n v.hi)
def renvN (vs : List VV) (s : ByteArray) : Option RR := (lastV s none vs).map fun v => ⟨v.lo, v.hi⟩
def enc2 (a : Option VV) : Int × Bool := ((a.map fun v => max v.lo (min v.n v.hi)).getD 0, (a.map fun v => max v.lo (min v.n v.hi)).isSome)
def enc3 (a : Option VV) : Int × Int × Bool := ((rname (a.map fun v => ⟨v.lo, v.hi⟩)).1.lo, (rname (a.map fun v => ⟨v.lo, v.hi⟩)).1.hi, (rname (a.map fun v => ⟨v.lo, v.hi⟩)).2)
theorem beqN (v : VV) (s : ByteArray) : beqL (strD v.name) (strD s) = decide (v.name = s) := by
  rw [beqL_eq, Bool.eq_iff_iff]
  simp only [decide_eq_true_eq]
  exact strD_inj
theorem scan2_ec (s : ByteArray) : ∀ (vs : List VV) (a : Option VV), scan2 (strD s) (enc2 a) (ecD vs) = some (enc2 (lastV s a vs))
  | [], a => rfl
  | v :: r, a => by
    have := scan2_ec s r (if v.name = s then some v else a)
    show scan2 (strD s) (enc2 a) (.str (strD v.name) :: .int .u64 (max v.lo (min v.n v.hi)) :: ecD r) = _
    rw [scan2, beqN]
    by_cases h : v.name = s
    · rw [if_pos h] at this
      simp only [decide_eq_true h, cond_true, lastV, if_pos h]
      exact this
    · rw [if_neg h] at this
      simp only [decide_eq_false h, cond_false, lastV, if_neg h]
      exact this
theorem scan3_ac (s : ByteArray) : ∀ (vs : List VV) (a : Option VV), scan3 (strD s) (enc3 a) (acD vs) = some (enc3 (lastV s a vs))
  | [], a => rfl
  | v :: r, a => by
    have := scan3_ac s r (if v.name = s then some v else a)
    show scan3 (strD s) (enc3 a) (.str (strD v.name) :: .int .u64 v.lo :: .int .u64 v.hi :: acD r) = _
    rw [scan3, beqN]
    by_cases h : v.name = s
    · rw [if_pos h] at this
      simp only [decide_eq_true h, cond_true, lastV, if_pos h]
      exact this
    · rw [if_neg h] at this
      simp only [decide_eq_false h, cond_false, lastV, if_neg h]
      exact this
theorem env_row {d : D} {vs : List VV} (hl : vs.length ≤ 1000) (hd : RowD d vs.length (ecD vs)) : EnvD d (envN vs) := by
  intro h s
  rcases hd with ⟨h0, rfl, _⟩ | ⟨k, rfl⟩
  · have : vs = [] := List.eq_nil_of_length_eq_zero h0
    subst this
    rfl
  · have h1 : Nat.beq (ecD vs).length (vs.length * 2) = true := by rw [ecD_len, Nat.beq_refl]
    have h2 : Nat.ble vs.length 1000000 = true := ble_of (by omega)
    have h3 := scan2_ec s vs none
    simp only [libGet, sliceCells, h1, h2, cond_true, Bool.and_self]
    have e : enc2 none = (0, false) := rfl
    rw [e] at h3
    rw [h3]
    rfl
theorem vars_row {d : D} {vs : List VV} (hl : vs.length ≤ 1000) (hd : RowD d vs.length (acD vs)) : VarsD d (renvN vs) := by
  intro h l t c0 c2 s hg
  have hr : readCells h (.ptr l (0 + 1)) 1 = some [d] := by rw [rc_ptr, hg]; rfl
  rcases hd with ⟨h0, rfl, _⟩ | ⟨k, rfl⟩
  · have : vs = [] := List.eq_nil_of_length_eq_zero h0
    subst this
    simp only [libName, hr]
    rfl
  · have h1 : Nat.beq (acD vs).length (vs.length * 3) = true := by rw [acD_len, Nat.beq_refl]
    have h2 : Nat.ble vs.length 1000000 = true := ble_of (by omega)
    have h3 := scan3_ac s vs none
    have e : enc3 none = (0, 0, false) := rfl
    rw [e] at h3
    simp only [libName, hr, sliceCells, h1, h2, cond_true, Bool.and_self]
    rw [h3]
    rfl
theorem RowD.one {d : D} {n : Nat} {cs : List D} (hd : RowD d n cs) : d.one = true := by rcases hd with ⟨_, rfl, _⟩ | ⟨k, rfl⟩ <;> rfl
theorem RowD.cells {d : D} {n : Nat} {cs : List D} (hd : RowD d n cs) : d.cells = [d] := by rcases hd with ⟨_, rfl, _⟩ | ⟨k, rfl⟩ <;> rfl
def VU (v : VV) : Prop := U v.lo ∧ U v.hi ∧ U v.n
theorem lastV_mem {s : ByteArray} : ∀ {vs : List VV} {a : Option VV} {v : VV}, lastV s a vs = some v → a = some v ∨ v ∈ vs
  | [], a, v, h => .inl h
  | x :: r, a, v, h => by
    rcases lastV_mem (vs := r) h with h1 | h1
    · split at h1
      · cases h1; exact .inr (List.mem_cons_self ..)
      · exact .inl h1
    · exact .inr (List.mem_cons_of_mem _ h1)
theorem renv_UR {vs : List VV} (hu : ∀ v ∈ vs, VU v) : ∀ s r, renvN vs s = some r → UR r := by
  intro s r h
  unfold renvN at h
  cases hl : lastV s none vs with
  | none => rw [hl] at h; cases h
  | some v =>
    rw [hl] at h
    cases h
    rcases lastV_mem hl with h1 | h1
    · cases h1
    · exact ⟨(hu v h1).1, (hu v h1).2.1⟩
theorem env_U {vs : List VV} (hu : ∀ v ∈ vs, VU v) : ∀ s n, envN vs s = some n → U n := by
  intro s n h
  unfold envN at h
  cases hl : lastV s none vs with
  | none => rw [hl] at h; cases h
  | some v =>
    rw [hl] at h
    cases h
    rcases lastV_mem hl with h1 | h1
    · cases h1
    · obtain ⟨a, b, c⟩ := hu v h1
      have := a.lo; have := a.hi; have := b.lo; have := b.hi; have := c.lo; have := c.hi
      exact ⟨by show 0 ≤ max v.lo (min v.n v.hi); omega, by show max v.lo (min v.n v.hi) ≤ 18446744073709551615; omega⟩
theorem env_in {vs : List VV} (hu : ∀ v ∈ vs, VU v) (hg : ∀ v ∈ vs, v.lo ≤ v.hi) : EnvIn (envN vs) (renvN vs) := by
  intro s
  unfold envN renvN
  cases hl : lastV s none vs with
  | none => trivial
  | some v =>
    rcases lastV_mem hl with h1 | h1
    · cases h1
    · obtain ⟨a, b, c⟩ := hu v h1
      have := hg v h1
      exact ⟨⟨by show v.lo ≤ max v.lo (min v.n v.hi); omega, by show max v.lo (min v.n v.hi) ≤ v.hi; omega⟩, a, b⟩

theorem rem_bin {E : Env} {o1 o2 : Operand} (a b : Nat) (hb : b ≠ 0) : binD E .rem 3 o1 o2 (.int .i64 (.ofNat a)) (.int .i64 (.ofNat b)) = some (.int .i64 (.ofNat (a % b))) := by
  have h1 : ((b : Int) == 0) = false := by simp; exact hb
  simp only [binD, quickBin, D.plain, D.plain0, D.plain1]
  simp [eqGuard, binOp, Op.intDiv, hb, h1]
  rfl
theorem max_val {P : Program} (a b : Int) (cs : Array Bool) : val? P (builtin .max #[3, 3] 3 cs #[.int .i64 a, .int .i64 b]) = some (.value (.int .i64 (max a b))) := by
  have e : (if b > a then b else a) = max a b := by split <;> omega
  rw [← e]
  rfl
theorem max_bi {E : Env} {c : Call} {a : AAct} {h : H} (m n : Int) (cs : Array Bool) : r_bi .max #[3, 3] 3 cs [.d (.int .i64 m), .d (.int .i64 n)] E c a h = .ok (.int .i64 (max m n)) h := by
  simp only [r_bi, AAct.evals, AAct.eval, plains, D.plain, D.plain0, D.plain1]
  have := max_val (P := E.P) m n cs
  simp only [this]
  rfl
theorem wakes_ev {E : Env} (h : H) : WC E TT 11 [] h fun d h' => d = .v (.bool true) ∧ h' = h := by
  refine wc_lib tt11 ?_
  exact ⟨rfl, rfl⟩
theorem has_ev {E : Env} (lo hi n : Int) (h : H) : WC E TT 12 [.agg [.int .u64 lo, .int .u64 hi], .int .u64 n] h fun d h' => d = .v (.bool (decide (lo ≤ n) && decide (n ≤ hi))) ∧ Gr h h' := by
  refine wc_fn tt12 ?_
  simp only [ss, fargs_cons, fargs_nil]
  by_cases h1 : lo ≤ n
  · have f1 : iLt n lo = false := by rw [iLt_eq]; exact decide_eq_false (by omega)
    by_cases h2 : n ≤ hi
    · have f2 : iLt hi n = false := by rw [iLt_eq]; exact decide_eq_false (by omega)
      repeat' (first | refine wp_skip ?_ | refine wp_exit ?_ | refine wp_ret ?_ | refine wp_seq ?_ | refine wp_cond ?_ | refine wp_block ?_ | refine wp_dreg ?_ | refine wp_reg ?_ | simp (maxSteps := 2000000) (disch := first | omega | (simp only [next_new, next_put]; omega) | fail) only [wr_mv, wr_len, wr_fa, wr_nil, wr_ext, wr_not, wr_ixs, wr_sl, wr_ld1, wr_ldN, wr_st, wr_alloc, wr_box, wr_mkmap, wr_int, wr_pick, wr_build, wr_buildSl, wr_look, wr_mk, wr_app, wr_sbin, wr_fog, wr_end, wd_mv, wd_fa, wd_nil, wd_ext, wd_ixs, wd_alloc, wd_build, wd_buildSl, wd_ld1, wd_ldN, wd_st, wd_mset, wd_app, wd_int, wd_end, sO_ok, sD_ok, sR_ok, sL_ok, sB_t, sB_f, sG_t, sG_f, kseq_n, kseq_r, kseq_e, kblk_n, kblk_r, kblk_e, kfn_n, kfn_r, sC_ok, kc_eq, kd_eq, oFa_ptr, oFa_ep, oNil_ptr, oNil_ep, oLen_sl, oLen_row, oLen_nil, oExt_0, oExt_1, oExt_2, okq_some, oNot_bool, oSl_nil, rc_ptr, rc_ep, oRd, oEp, oLd1_some, oLdN_some, oSt, oInt_int, oPick_b, oBuild_some, oBuildSl_some, ffill_nil, oFill_some, ffill, patch, oFind_some, oFind_none, oOne_some, oTwo_some, cfin_one, cfin_two, wanted_b, wanted_u, evs_nil, evs_cons, fargs_nil, fargs_cons, cells_int, cells_str, cells_agg, cells_sl, cells_row, cells_map, cells_ptr, cells_bool, cells_nil, one_nil, one_cons, one_int, one_str, one_sl, one_row, one_map, one_ptr, one_bool, one_vnil, deql, dneq, dlss, dgtr, dgeq, iEq_n, iLt_n, iLe, beq_dec, blt_dec, ble_dec, mem_nil, readOk_nil, readOk_rd, loudOk_nil, loudOk_loud, loudOk_none, List.drop_succ_cons, List.drop_zero, List.drop_nil, List.take_succ_cons, List.take_zero, List.take_nil, List.length_cons, List.length_nil, List.cons_append, List.nil_append, Nat.reduceAdd, Nat.reduceEqDiff, Nat.reduceLeDiff, decide_true, decide_false, Bool.and_self, Bool.and_true, Bool.true_and, Bool.not_true, Bool.not_false, cond_true, cond_false, true_and, and_true, Gt_St, p0_eq, kD_eq, reduceIte, Nat.add_zero, Nat.zero_add, next_new, next_put, hget_new_le, hget_new_ne, hget_put_same, hget_put_ne, f1, f2, dleq])
      exact ⟨by simp [h1, h2], (Gr.refl h).new _⟩
    · have f2 : iLt hi n = true := by rw [iLt_eq]; exact decide_eq_true (by omega)
      repeat' (first | refine wp_skip ?_ | refine wp_exit ?_ | refine wp_ret ?_ | refine wp_seq ?_ | refine wp_cond ?_ | refine wp_block ?_ | refine wp_dreg ?_ | refine wp_reg ?_ | simp (maxSteps := 2000000) (disch := first | omega | (simp only [next_new, next_put]; omega) | fail) only [wr_mv, wr_len, wr_fa, wr_nil, wr_ext, wr_not, wr_ixs, wr_sl, wr_ld1, wr_ldN, wr_st, wr_alloc, wr_box, wr_mkmap, wr_int, wr_pick, wr_build, wr_buildSl, wr_look, wr_mk, wr_app, wr_sbin, wr_fog, wr_end, wd_mv, wd_fa, wd_nil, wd_ext, wd_ixs, wd_alloc, wd_build, wd_buildSl, wd_ld1, wd_ldN, wd_st, wd_mset, wd_app, wd_int, wd_end, sO_ok, sD_ok, sR_ok, sL_ok, sB_t, sB_f, sG_t, sG_f, kseq_n, kseq_r, kseq_e, kblk_n, kblk_r, kblk_e, kfn_n, kfn_r, sC_ok, kc_eq, kd_eq, oFa_ptr, oFa_ep, oNil_ptr, oNil_ep, oLen_sl, oLen_row, oLen_nil, oExt_0, oExt_1, oExt_2, okq_some, oNot_bool, oSl_nil, rc_ptr, rc_ep, oRd, oEp, oLd1_some, oLdN_some, oSt, oInt_int, oPick_b, oBuild_some, oBuildSl_some, ffill_nil, oFill_some, ffill, patch, oFind_some, oFind_none, oOne_some, oTwo_some, cfin_one, cfin_two, wanted_b, wanted_u, evs_nil, evs_cons, fargs_nil, fargs_cons, cells_int, cells_str, cells_agg, cells_sl, cells_row, cells_map, cells_ptr, cells_bool, cells_nil, one_nil, one_cons, one_int, one_str, one_sl, one_row, one_map, one_ptr, one_bool, one_vnil, deql, dneq, dlss, dgtr, dgeq, iEq_n, iLt_n, iLe, beq_dec, blt_dec, ble_dec, mem_nil, readOk_nil, readOk_rd, loudOk_nil, loudOk_loud, loudOk_none, List.drop_succ_cons, List.drop_zero, List.drop_nil, List.take_succ_cons, List.take_zero, List.take_nil, List.length_cons, List.length_nil, List.cons_append, List.nil_append, Nat.reduceAdd, Nat.reduceEqDiff, Nat.reduceLeDiff, decide_true, decide_false, Bool.and_self, Bool.and_true, Bool.true_and, Bool.not_true, Bool.not_false, cond_true, cond_false, true_and, and_true, Gt_St, p0_eq, kD_eq, reduceIte, Nat.add_zero, Nat.zero_add, next_new, next_put, hget_new_le, hget_new_ne, hget_put_same, hget_put_ne, f1, f2, dleq])
      exact ⟨by simp [h1, h2], (Gr.refl h).new _⟩
  · have f1 : iLt n lo = true := by rw [iLt_eq]; exact decide_eq_true (by omega)
    repeat' (first | refine wp_skip ?_ | refine wp_exit ?_ | refine wp_ret ?_ | refine wp_seq ?_ | refine wp_cond ?_ | refine wp_block ?_ | refine wp_dreg ?_ | refine wp_reg ?_ | simp (maxSteps := 2000000) (disch := first | omega | (simp only [next_new, next_put]; omega) | fail) only [wr_mv, wr_len, wr_fa, wr_nil, wr_ext, wr_not, wr_ixs, wr_sl, wr_ld1, wr_ldN, wr_st, wr_alloc, wr_box, wr_mkmap, wr_int, wr_pick, wr_build, wr_buildSl, wr_look, wr_mk, wr_app, wr_sbin, wr_fog, wr_end, wd_mv, wd_fa, wd_nil, wd_ext, wd_ixs, wd_alloc, wd_build, wd_buildSl, wd_ld1, wd_ldN, wd_st, wd_mset, wd_app, wd_int, wd_end, sO_ok, sD_ok, sR_ok, sL_ok, sB_t, sB_f, sG_t, sG_f, kseq_n, kseq_r, kseq_e, kblk_n, kblk_r, kblk_e, kfn_n, kfn_r, sC_ok, kc_eq, kd_eq, oFa_ptr, oFa_ep, oNil_ptr, oNil_ep, oLen_sl, oLen_row, oLen_nil, oExt_0, oExt_1, oExt_2, okq_some, oNot_bool, oSl_nil, rc_ptr, rc_ep, oRd, oEp, oLd1_some, oLdN_some, oSt, oInt_int, oPick_b, oBuild_some, oBuildSl_some, ffill_nil, oFill_some, ffill, patch, oFind_some, oFind_none, oOne_some, oTwo_some, cfin_one, cfin_two, wanted_b, wanted_u, evs_nil, evs_cons, fargs_nil, fargs_cons, cells_int, cells_str, cells_agg, cells_sl, cells_row, cells_map, cells_ptr, cells_bool, cells_nil, one_nil, one_cons, one_int, one_str, one_sl, one_row, one_map, one_ptr, one_bool, one_vnil, deql, dneq, dlss, dgtr, dgeq, iEq_n, iLt_n, iLe, beq_dec, blt_dec, ble_dec, mem_nil, readOk_nil, readOk_rd, loudOk_nil, loudOk_loud, loudOk_none, List.drop_succ_cons, List.drop_zero, List.drop_nil, List.take_succ_cons, List.take_zero, List.take_nil, List.length_cons, List.length_nil, List.cons_append, List.nil_append, Nat.reduceAdd, Nat.reduceEqDiff, Nat.reduceLeDiff, decide_true, decide_false, Bool.and_self, Bool.and_true, Bool.true_and, Bool.not_true, Bool.not_false, cond_true, cond_false, true_and, and_true, Gt_St, p0_eq, kD_eq, reduceIte, Nat.add_zero, Nat.zero_add, next_new, next_put, hget_new_le, hget_new_ne, hget_put_same, hget_put_ne, f1, dleq])
    exact ⟨by simp [h1], (Gr.refl h).new _⟩
end Go.Abs.Sy
