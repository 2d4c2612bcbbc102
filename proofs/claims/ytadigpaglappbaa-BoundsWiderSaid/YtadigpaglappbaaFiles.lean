/- calliperlaw11.files, by rules. -/
import Derived.Test.YtadigpaglappbaaOf
import Derived.Test.YtadigpaglappbaaExprN
set_option linter.unusedVariables false
set_option linter.unusedSimpArgs false
namespace Go.Abs.Sy
open Go.Abs.Run hiding op
open Go.Proofs.Ytadigpaglappbaa.Word Go.Proofs.Ytadigpaglappbaa.BoundsN Go.Proofs.Ytadigpaglappbaa.ExprN

def trunc (x : EX) : EX := { x with kids := x.kids.take 4 }
def fileN (es : List EX) : List EX := (es.take 60).map trunc
theorem loudOk_rdS {inc : List Nat} {h : H} {x : D} {cs : List D} {j : Nat} {recs : List Rec} : loudOk inc h (.rd j x cs :: recs) = ((!mem? j inc || oSame (readCells h x cs.length) cs) && loudOk inc h recs) := rfl
theorem KD.head2 {d : D} {kids : List Int} (hk : KD d kids) {mm : Nat} (hm : mm ≤ kids.length) : ∃ kd', (∀ h, oSl 1 d (.int .i64 (.ofNat mm)) h = .ok kd' h) ∧ KD kd' (kids.take mm) := by
  rcases hk with ⟨rfl, rfl⟩ | rfl
  · have : mm = 0 := by simpa using hm
    subst this
    exact ⟨_, fun h => oSl_nil, .inl ⟨rfl, rfl⟩⟩
  · refine ⟨_, fun h => oSl_sl hm, .inr ?_⟩
    unfold headSl
    cases hb : Nat.beq mm kids.length with
    | true =>
      have := Nat.eq_of_beq_eq_true hb
      subst this
      simp only [cond_true, List.take_length]
    | false => simp only [cond_false, Nat.mul_one, List.length_take, List.map_take, Nat.min_eq_left hm]
theorem XD.head {xd : D} {es : List EX} (hx : XD xd es) {m : Nat} (hm : m ≤ es.length) : ∃ td, (∀ h, oSl 5 xd (.int .i64 (.ofNat m)) h = .ok td h) ∧ (∀ h, oLen td h = .ok (.int .i64 (.ofNat m)) h) ∧
    ∀ i, i < m → ∃ x kd rest, es[i]? = some x ∧ KD kd x.kids ∧ ∀ h, oIxs 5 td (.int .i64 (.ofNat i)) h = .ok (.ep (xc x kd ++ rest)) h := by
  rcases hx with ⟨rfl, rfl⟩ | ⟨id, cs, rfl, hcs⟩
  · have : m = 0 := by simpa using hm
    subst this
    exact ⟨_, fun h => oSl_nil, fun h => oLen_nil, fun i hi => by omega⟩
  · obtain ⟨id', cs', h1, h2⟩ := headSl_at (size := 5) (id := id) (n := es.length) (m := m) (cs := cs) hm
    refine ⟨.sl id' m cs', fun h => by rw [oSl_sl hm, h1], fun h => oLen_sl, fun i hi => ?_⟩
    have hi' : i < es.length := by omega
    obtain ⟨kd, rest, h3, h4⟩ := hcs i _ (List.getElem?_eq_getElem hi')
    obtain ⟨rest', h5⟩ := h2 i _ rest h3 rfl hi
    exact ⟨_, kd, rest', List.getElem?_eq_getElem hi', h4, fun h => oIxs_sl hi (by rw [h5]; rfl)⟩
/-! append, part by part. -/
def oTip (o : Option AObj) (e size bytes k n m : Nat) (cs ys : List D) (h : H) : O D :=
  match o with
  | some (.tip k' u) => bif Nat.beq k' n && Nat.beq u e && Nat.beq cs.length (n * size) && Nat.ble ((n + m) * bytes) 140737488355328 && Nat.ble (n + m) 140737488355328 then .ok (.sl k (n + m) (cs ++ ys)) (fput' h k (.tip (n + m) e)) else .fail "append: not the tip"
  | _ => .fail "append: no tip"
theorem oApp_unf {e size bytes k n id m : Nat} {cs ys : List D} {h : H} : oApp e size bytes (.sl k n cs) (.sl id m ys) h = bif Nat.beq ys.length (m * size) then (bif Nat.beq m 0 then .ok (.sl k n cs) h else bif allOne ys && Nat.beq ys.length (m * size) && !Nat.beq size 0 then oTip (hget h.mem k) e size bytes k n m cs ys h else .fail "append: cells") else .fail "append: what?" := by
  cases hb : Nat.beq ys.length (m * size)
  · simp only [oApp, appendD, sliceCells, hb, cond_false]
  · simp only [oApp, appendD, sliceCells, oTip, hget_eq, fput'_eq, hb, cond_true]
    rfl
theorem oApp_unil {e size bytes id m : Nat} {ys : List D} {h : H} : oApp e size bytes (.v (.slice none 0 0)) (.sl id m ys) h = bif Nat.beq ys.length (m * size) then (bif Nat.beq m 0 then .ok (.v (.slice none 0 0)) h else bif allOne ys && Nat.beq ys.length (m * size) && !Nat.beq size 0 then (bif Nat.ble (m * bytes) 140737488355328 && Nat.ble m 140737488355328 then .ok (.sl h.next m ys) (fnew h (.tip m e)) else .fail "append: size") else .fail "append: cells") else .fail "append: what?" := by
  cases hb : Nat.beq ys.length (m * size)
  · simp only [oApp, appendD, sliceCells, hb, cond_false]
  · simp only [oApp, appendD, sliceCells, fnew_eq, hb, cond_true]
theorem oTip_ok {e size bytes k n m : Nat} {cs ys : List D} {h : H} (hc : cs.length = n * size) (h1 : (n + m) * bytes ≤ 140737488355328) (h2 : n + m ≤ 140737488355328) : oTip (some (.tip n e)) e size bytes k n m cs ys h = .ok (.sl k (n + m) (cs ++ ys)) (fput' h k (.tip (n + m) e)) := by
  simp only [oTip, Nat.beq_refl, hc, ble_of h1, ble_of h2, Bool.and_self, cond_true]
/-- A slice that is being made. -/
def Grow1 (n0 : Nat) (h : H) (e size : Nat) (i k : Nat) (cs : List D) (d : D) : Prop := (i = 0 ∧ d = .v (.slice none 0 0) ∧ cs = []) ∨ (0 < i ∧ d = .sl k i cs ∧ hget h.mem k = some (.tip i e) ∧ cs.length = i * size ∧ n0 < k ∧ k < h.next)
def FI (es : List EX) (m : Nat) (td : D) (ha : H) (_ : Tr D) (_ : H) (n : Nat) (t : Tr D) (h : H) : Prop :=
  ∃ i ix ig csx csg xd gd, i ≤ m ∧ n = m - i ∧ Gt 14 t = td ∧ Gt 15 t = .int .i64 (.ofNat m) ∧ Gt 16 t = .int .i64 (.ofNat i) ∧ Gt 4 t = .ptr ha.next 0 ∧ Gt 5 t = gd ∧ hget h.mem ha.next = some (.cells 57 [.v (.slice none 0 0), .v (.slice none 0 0), xd, .v (.slice none 0 0)]) ∧
    Grow1 ha.next h 63 5 i ix csx xd ∧ Grow1 ha.next h 64 5 i ig csg gd ∧ (i ≠ 0 → ix ≠ ig) ∧ XS ((es.take i).map trunc) csx ∧ Gr ha h ∧ ha.next < h.next
theorem XS.snoc {es : List EX} {cs : List D} {x : EX} {kd : D} (hx : XS es cs) (hl : cs.length = es.length * 5) (hk : KD kd x.kids) : XS (es ++ [x]) (cs ++ xc x kd) := by
  intro i y hy
  by_cases hi : i < es.length
  · rw [List.getElem?_append_left hi] at hy
    obtain ⟨kd', rest, h1, h2⟩ := hx i y hy
    refine ⟨kd', rest ++ xc x kd, ?_, h2⟩
    rw [List.drop_append_of_le_length (by omega), h1, List.append_assoc]
  · rw [List.getElem?_append_right (by omega)] at hy
    have e : i - es.length = 0 := by
      cases hh : i - es.length with
      | zero => rfl
      | succ j => rw [hh] at hy; simp at hy
    have hi' : i = es.length := by omega
    subst hi'
    rw [e] at hy
    cases hy
    refine ⟨kd, [], ?_, hk⟩
    rw [← hl, List.drop_left', List.append_nil]
    rfl
set_option maxHeartbeats 4000000 in
theorem files_ev {E : Env} {es : List EX} {ld : D} (hld : XD ld es) (ha : H) : WC E TT 6 [ld] ha fun d h' => ∃ gd xd, d = .tup [.ptr ha.next 0, gd] ∧ ha.next < h'.next ∧ hget h'.mem ha.next = some (.cells 57 [.v (.slice none 0 0), .v (.slice none 0 0), xd, .v (.slice none 0 0)]) ∧ XD xd (fileN es) ∧ xd.one = true ∧ Gr ha h' := by
  have x1 := hld.len
  obtain ⟨td, x4, x5, x6⟩ := hld.head (m := min es.length 60) (Nat.min_le_left _ _)
  have h60 : min es.length 60 ≤ 60 := Nat.min_le_right _ _
  have hfile : fileN es = (es.take (min es.length 60)).map trunc := by
    unfold fileN
    congr 1
    rw [← List.take_take]
    exact (List.take_of_length_le (by rw [List.length_take]; omega)).symm
  generalize hm : min es.length 60 = m at *
  refine wc_fn tt6 ?_
  simp only [ss, fargs_cons, fargs_nil]
  repeat' (first | refine wp_skip ?_ | refine wp_exit ?_ | refine wp_ret ?_ | refine wp_seq ?_ | refine wp_cond ?_ | refine wp_block ?_ | refine wp_dreg ?_ | refine wp_reg ?_ | simp (maxSteps := 2000000) (disch := first | omega | (simp only [next_new, next_put]; omega) | fail) only [wr_mv, wr_len, wr_fa, wr_nil, wr_ext, wr_not, wr_ixs, wr_sl, wr_ld1, wr_ldN, wr_st, wr_alloc, wr_box, wr_mkmap, wr_int, wr_pick, wr_build, wr_buildSl, wr_look, wr_mk, wr_app, wr_sbin, wr_fog, wr_end, wd_mv, wd_fa, wd_nil, wd_ext, wd_ixs, wd_alloc, wd_build, wd_buildSl, wd_ld1, wd_ldN, wd_st, wd_mset, wd_app, wd_int, wd_end, sO_ok, sD_ok, sR_ok, sL_ok, sB_t, sB_f, sG_t, sG_f, kseq_n, kseq_r, kseq_e, kblk_n, kblk_r, kblk_e, kfn_n, kfn_r, sC_ok, kc_eq, kd_eq, oFa_ptr, oFa_ep, oNil_ptr, oNil_ep, oLen_sl, oLen_row, oLen_nil, oExt_0, oExt_1, oExt_2, okq_some, oNot_bool, oSl_nil, rc_ptr, rc_ep, oRd, oEp, oLd1_some, oLdN_some, oSt, oInt_int, oPick_b, oBuild_some, oBuildSl_some, ffill_nil, oFill_some, ffill, patch, oFind_some, oFind_none, oOne_some, oTwo_some, cfin_one, cfin_two, wanted_b, wanted_u, evs_nil, evs_cons, fargs_nil, fargs_cons, cells_int, cells_str, cells_agg, cells_sl, cells_row, cells_map, cells_ptr, cells_bool, cells_nil, one_nil, one_cons, one_int, one_str, one_sl, one_row, one_map, one_ptr, one_bool, one_vnil, deql, dneq, dlss, dgtr, dgeq, iEq_n, iLt_n, iLe, beq_dec, blt_dec, ble_dec, mem_nil, readOk_nil, readOk_rd, loudOk_nil, loudOk_loud, loudOk_none, List.drop_succ_cons, List.drop_zero, List.drop_nil, List.take_succ_cons, List.take_zero, List.take_nil, List.length_cons, List.length_nil, List.cons_append, List.nil_append, Nat.reduceAdd, Nat.reduceEqDiff, Nat.reduceLeDiff, decide_true, decide_false, Bool.and_self, Bool.and_true, Bool.true_and, Bool.not_true, Bool.not_false, cond_true, cond_false, true_and, and_true, Gt_St, p0_eq, kD_eq, reduceIte, Nat.add_zero, Nat.zero_add, next_new, next_put, hget_new_le, hget_new_ne, hget_put_same, hget_put_ne, hm, x1, x4, x5, wr_bi, min_bi, List.map_cons, List.map_nil])
  refine wp_loopC (FI es m td ha) m ?_ ?_
  · refine ⟨0, 0, 0, [], [], _, _, Nat.zero_le _, rfl, ?_, ?_, ?_, ?_, ?_, hget_new_eq rfl, .inl ⟨rfl, rfl, rfl⟩, .inl ⟨rfl, rfl, rfl⟩, fun h => absurd rfl h, fun i x hi => by simp at hi, (Gr.refl ha).new _, Nat.lt_succ_self _⟩
    all_goals simp (maxSteps := 2000000) (disch := first | omega | (simp only [next_new, next_put]; omega) | fail) only [wr_mv, wr_len, wr_fa, wr_nil, wr_ext, wr_not, wr_ixs, wr_sl, wr_ld1, wr_ldN, wr_st, wr_alloc, wr_box, wr_mkmap, wr_int, wr_pick, wr_build, wr_buildSl, wr_look, wr_mk, wr_app, wr_sbin, wr_fog, wr_end, wd_mv, wd_fa, wd_nil, wd_ext, wd_ixs, wd_alloc, wd_build, wd_buildSl, wd_ld1, wd_ldN, wd_st, wd_mset, wd_app, wd_int, wd_end, sO_ok, sD_ok, sR_ok, sL_ok, sB_t, sB_f, sG_t, sG_f, kseq_n, kseq_r, kseq_e, kblk_n, kblk_r, kblk_e, kfn_n, kfn_r, sC_ok, kc_eq, kd_eq, oFa_ptr, oFa_ep, oNil_ptr, oNil_ep, oLen_sl, oLen_row, oLen_nil, oExt_0, oExt_1, oExt_2, okq_some, oNot_bool, oSl_nil, rc_ptr, rc_ep, oRd, oEp, oLd1_some, oLdN_some, oSt, oInt_int, oPick_b, oBuild_some, oBuildSl_some, ffill_nil, oFill_some, ffill, patch, oFind_some, oFind_none, oOne_some, oTwo_some, cfin_one, cfin_two, wanted_b, wanted_u, evs_nil, evs_cons, fargs_nil, fargs_cons, cells_int, cells_str, cells_agg, cells_sl, cells_row, cells_map, cells_ptr, cells_bool, cells_nil, one_nil, one_cons, one_int, one_str, one_sl, one_row, one_map, one_ptr, one_bool, one_vnil, deql, dneq, dlss, dgtr, dgeq, iEq_n, iLt_n, iLe, beq_dec, blt_dec, ble_dec, mem_nil, readOk_nil, readOk_rd, loudOk_nil, loudOk_loud, loudOk_none, List.drop_succ_cons, List.drop_zero, List.drop_nil, List.take_succ_cons, List.take_zero, List.take_nil, List.length_cons, List.length_nil, List.cons_append, List.nil_append, Nat.reduceAdd, Nat.reduceEqDiff, Nat.reduceLeDiff, decide_true, decide_false, Bool.and_self, Bool.and_true, Bool.true_and, Bool.not_true, Bool.not_false, cond_true, cond_false, true_and, and_true, Gt_St, p0_eq, kD_eq, reduceIte, Nat.add_zero, Nat.zero_add, next_new, next_put, hget_new_le, hget_new_ne, hget_put_same, hget_put_ne]
  rintro n t h ⟨i, ix, ig, csx, csg, xd, gd, hi, rfl, g14, g15, g16, g4, g5, hF, hX, hG, hxg, hXS, hgr, hlt⟩
  by_cases him : i < m
  rotate_left
  · have e : i = m := by omega
    subst e
    have hd : decide (i < i) = false := decide_eq_false (by omega)
    repeat' (first | refine wp_skip ?_ | refine wp_exit ?_ | refine wp_ret ?_ | refine wp_seq ?_ | refine wp_cond ?_ | refine wp_block ?_ | refine wp_dreg ?_ | refine wp_reg ?_ | simp (maxSteps := 2000000) (disch := first | omega | (simp only [next_new, next_put]; omega) | fail) only [wr_mv, wr_len, wr_fa, wr_nil, wr_ext, wr_not, wr_ixs, wr_sl, wr_ld1, wr_ldN, wr_st, wr_alloc, wr_box, wr_mkmap, wr_int, wr_pick, wr_build, wr_buildSl, wr_look, wr_mk, wr_app, wr_sbin, wr_fog, wr_end, wd_mv, wd_fa, wd_nil, wd_ext, wd_ixs, wd_alloc, wd_build, wd_buildSl, wd_ld1, wd_ldN, wd_st, wd_mset, wd_app, wd_int, wd_end, sO_ok, sD_ok, sR_ok, sL_ok, sB_t, sB_f, sG_t, sG_f, kseq_n, kseq_r, kseq_e, kblk_n, kblk_r, kblk_e, kfn_n, kfn_r, sC_ok, kc_eq, kd_eq, oFa_ptr, oFa_ep, oNil_ptr, oNil_ep, oLen_sl, oLen_row, oLen_nil, oExt_0, oExt_1, oExt_2, okq_some, oNot_bool, oSl_nil, rc_ptr, rc_ep, oRd, oEp, oLd1_some, oLdN_some, oSt, oInt_int, oPick_b, oBuild_some, oBuildSl_some, ffill_nil, oFill_some, ffill, patch, oFind_some, oFind_none, oOne_some, oTwo_some, cfin_one, cfin_two, wanted_b, wanted_u, evs_nil, evs_cons, fargs_nil, fargs_cons, cells_int, cells_str, cells_agg, cells_sl, cells_row, cells_map, cells_ptr, cells_bool, cells_nil, one_nil, one_cons, one_int, one_str, one_sl, one_row, one_map, one_ptr, one_bool, one_vnil, deql, dneq, dlss, dgtr, dgeq, iEq_n, iLt_n, iLe, beq_dec, blt_dec, ble_dec, mem_nil, readOk_nil, readOk_rd, loudOk_nil, loudOk_loud, loudOk_none, List.drop_succ_cons, List.drop_zero, List.drop_nil, List.take_succ_cons, List.take_zero, List.take_nil, List.length_cons, List.length_nil, List.cons_append, List.nil_append, Nat.reduceAdd, Nat.reduceEqDiff, Nat.reduceLeDiff, decide_true, decide_false, Bool.and_self, Bool.and_true, Bool.true_and, Bool.not_true, Bool.not_false, cond_true, cond_false, true_and, and_true, Gt_St, p0_eq, kD_eq, reduceIte, Nat.add_zero, Nat.zero_add, next_new, next_put, hget_new_le, hget_new_ne, hget_put_same, hget_put_ne, g14, g15, g16, g4, g5, hd, kloop_n, kloop_e])
    refine ⟨gd, xd, rfl, hlt, hF, ?_, ?_, hgr⟩
    · rw [hfile]
      rcases hX with ⟨h0, rfl, _⟩ | ⟨h0, rfl, h1, h2, h3, h4⟩
      · subst h0; exact .inl ⟨rfl, rfl⟩
      · refine .inr ⟨ix, csx, ?_, hXS⟩
        rw [List.length_map, List.length_take, ← hm, Nat.min_eq_left (Nat.min_le_left _ _)]
    · rcases hX with ⟨h0, rfl, _⟩ | ⟨h0, rfl, _⟩ <;> rfl
  obtain ⟨x, kd, rest, hx0, hkd, hix⟩ := x6 i him
  have hd : decide (i < m) = true := decide_eq_true him
  have k1 := hkd.one
  have k2 := hkd.cells
  have k3 := hkd.len
  obtain ⟨kd', k5, hkd'⟩ := hkd.head2 (mm := min x.kids.length 4) (Nat.min_le_left _ _)
  have hk4 : x.kids.take (min x.kids.length 4) = x.kids.take 4 := by rw [← List.take_take, List.take_of_length_le (by rw [List.length_take]; omega)]
  rw [hk4] at hkd'
  have k6 := hkd'.one
  have k7 := hkd'.cells
  generalize hmk : min x.kids.length 4 = mk at *
  simp only [xc] at hix
  have hsn : (es.take (i + 1)).map trunc = (es.take i).map trunc ++ [trunc x] := by rw [List.take_add_one, hx0, List.map_append]; rfl
  have hil : ((es.take i).map trunc).length = i := by
    have := (List.getElem?_eq_some_iff.1 hx0).1
    rw [List.length_map, List.length_take]; omega
  rcases hX with ⟨h0, rfl, rfl⟩ | ⟨h0, rfl, hX1, hX2, hX3, hX4⟩
  · subst h0
    rcases hG with ⟨_, rfl, rfl⟩ | ⟨h0, _⟩
    rotate_left
    · omega
    repeat' (first | refine wp_skip ?_ | refine wp_exit ?_ | refine wp_ret ?_ | refine wp_seq ?_ | refine wp_cond ?_ | refine wp_block ?_ | refine wp_dreg ?_ | refine wp_reg ?_ | simp (maxSteps := 2000000) (disch := first | omega | (simp only [next_new, next_put]; omega) | fail) only [wr_mv, wr_len, wr_fa, wr_nil, wr_ext, wr_not, wr_ixs, wr_sl, wr_ld1, wr_ldN, wr_st, wr_alloc, wr_box, wr_mkmap, wr_int, wr_pick, wr_build, wr_buildSl, wr_look, wr_mk, wr_app, wr_sbin, wr_fog, wr_end, wd_mv, wd_fa, wd_nil, wd_ext, wd_ixs, wd_alloc, wd_build, wd_buildSl, wd_ld1, wd_ldN, wd_st, wd_mset, wd_app, wd_int, wd_end, sO_ok, sD_ok, sR_ok, sL_ok, sB_t, sB_f, sG_t, sG_f, kseq_n, kseq_r, kseq_e, kblk_n, kblk_r, kblk_e, kfn_n, kfn_r, sC_ok, kc_eq, kd_eq, oFa_ptr, oFa_ep, oNil_ptr, oNil_ep, oLen_sl, oLen_row, oLen_nil, oExt_0, oExt_1, oExt_2, okq_some, oNot_bool, oSl_nil, rc_ptr, rc_ep, oRd, oEp, oLd1_some, oLdN_some, oSt, oInt_int, oPick_b, oBuild_some, oBuildSl_some, ffill_nil, oFill_some, ffill, patch, oFind_some, oFind_none, oOne_some, oTwo_some, cfin_one, cfin_two, wanted_b, wanted_u, evs_nil, evs_cons, fargs_nil, fargs_cons, cells_int, cells_str, cells_agg, cells_sl, cells_row, cells_map, cells_ptr, cells_bool, cells_nil, one_nil, one_cons, one_int, one_str, one_sl, one_row, one_map, one_ptr, one_bool, one_vnil, deql, dneq, dlss, dgtr, dgeq, iEq_n, iLt_n, iLe, beq_dec, blt_dec, ble_dec, mem_nil, readOk_nil, readOk_rd, loudOk_nil, loudOk_loud, loudOk_none, List.drop_succ_cons, List.drop_zero, List.drop_nil, List.take_succ_cons, List.take_zero, List.take_nil, List.length_cons, List.length_nil, List.cons_append, List.nil_append, Nat.reduceAdd, Nat.reduceEqDiff, Nat.reduceLeDiff, decide_true, decide_false, Bool.and_self, Bool.and_true, Bool.true_and, Bool.not_true, Bool.not_false, cond_true, cond_false, true_and, and_true, Gt_St, p0_eq, kD_eq, reduceIte, Nat.add_zero, Nat.zero_add, next_new, next_put, hget_new_le, hget_new_ne, hget_put_same, hget_put_ne, g14, g15, g16, g4, g5, hd, kloop_n, kloop_e, hix, k1, k2, k3, k5, k6, k7, hmk, wr_bi, min_bi, List.map_cons, List.map_nil, hF, oApp_unf, oApp_unil, Nat.reduceMul, add_small, loudT, readT, readOk_rd, loudOk_rdS, mem_cons, Bool.true_or, Bool.or_true, Bool.or_false, eq_self])
    refine ⟨m - (0 + 1), by omega, 0 + 1, h.next + 1 + 1, h.next + 1 + 1 + 1 + 1, [.int .i64 x.kind, .str (strD x.op), .int .u64 x.n, .str (strD x.name), kd'], [.int .i64 x.kind, .str (strD x.op), .int .u64 x.n, .str (strD x.name), kd'], _, _, by omega, rfl, ?_, ?_, ?_, ?_, ?_, ?_, .inr ⟨by omega, rfl, ?_, rfl, ?_, ?_⟩, .inr ⟨by omega, rfl, ?_, rfl, ?_, ?_⟩, fun _ => by omega, ?_, ?_, ?_⟩
    all_goals try simp (maxSteps := 2000000) (disch := first | omega | (simp only [next_new, next_put]; omega) | fail) only [wr_mv, wr_len, wr_fa, wr_nil, wr_ext, wr_not, wr_ixs, wr_sl, wr_ld1, wr_ldN, wr_st, wr_alloc, wr_box, wr_mkmap, wr_int, wr_pick, wr_build, wr_buildSl, wr_look, wr_mk, wr_app, wr_sbin, wr_fog, wr_end, wd_mv, wd_fa, wd_nil, wd_ext, wd_ixs, wd_alloc, wd_build, wd_buildSl, wd_ld1, wd_ldN, wd_st, wd_mset, wd_app, wd_int, wd_end, sO_ok, sD_ok, sR_ok, sL_ok, sB_t, sB_f, sG_t, sG_f, kseq_n, kseq_r, kseq_e, kblk_n, kblk_r, kblk_e, kfn_n, kfn_r, sC_ok, kc_eq, kd_eq, oFa_ptr, oFa_ep, oNil_ptr, oNil_ep, oLen_sl, oLen_row, oLen_nil, oExt_0, oExt_1, oExt_2, okq_some, oNot_bool, oSl_nil, rc_ptr, rc_ep, oRd, oEp, oLd1_some, oLdN_some, oSt, oInt_int, oPick_b, oBuild_some, oBuildSl_some, ffill_nil, oFill_some, ffill, patch, oFind_some, oFind_none, oOne_some, oTwo_some, cfin_one, cfin_two, wanted_b, wanted_u, evs_nil, evs_cons, fargs_nil, fargs_cons, cells_int, cells_str, cells_agg, cells_sl, cells_row, cells_map, cells_ptr, cells_bool, cells_nil, one_nil, one_cons, one_int, one_str, one_sl, one_row, one_map, one_ptr, one_bool, one_vnil, deql, dneq, dlss, dgtr, dgeq, iEq_n, iLt_n, iLe, beq_dec, blt_dec, ble_dec, mem_nil, readOk_nil, readOk_rd, loudOk_nil, loudOk_loud, loudOk_none, List.drop_succ_cons, List.drop_zero, List.drop_nil, List.take_succ_cons, List.take_zero, List.take_nil, List.length_cons, List.length_nil, List.cons_append, List.nil_append, Nat.reduceAdd, Nat.reduceEqDiff, Nat.reduceLeDiff, decide_true, decide_false, Bool.and_self, Bool.and_true, Bool.true_and, Bool.not_true, Bool.not_false, cond_true, cond_false, true_and, and_true, Gt_St, p0_eq, kD_eq, reduceIte, Nat.add_zero, Nat.zero_add, next_new, next_put, hget_new_le, hget_new_ne, hget_put_same, hget_put_ne, g14, g15, g16, g4, g5]
    all_goals try omega
    · rw [show (es.take 1).map trunc = [trunc x] from hsn]
      exact XS.snoc (es := []) (cs := []) (fun i x hi => by simp at hi) rfl hkd'
    · exact (((((((hgr.new _).put (by omega) _).put (by omega) _).new _).new _).put (Nat.le_refl _) _).new _).new _
  · rcases hG with ⟨e0, _⟩ | ⟨_, rfl, hG1, hG2, hG3, hG4⟩
    · omega
    have hne := hxg (by omega)
    have hapX : ∀ H, oTip (some (.tip i 63)) 63 5 72 ix i 1 csx ([.int .i64 x.kind, .str (strD x.op), .int .u64 x.n, .str (strD x.name), kd']) H = .ok (.sl ix (i + 1) (csx ++ ([.int .i64 x.kind, .str (strD x.op), .int .u64 x.n, .str (strD x.name), kd']))) (fput' H ix (.tip (i + 1) 63)) := fun H => oTip_ok hX2 (by omega) (by omega)
    have hapG : ∀ H, oTip (some (.tip i 64)) 64 5 72 ig i 1 csg ([.int .i64 x.kind, .str (strD x.op), .int .u64 x.n, .str (strD x.name), kd']) H = .ok (.sl ig (i + 1) (csg ++ ([.int .i64 x.kind, .str (strD x.op), .int .u64 x.n, .str (strD x.name), kd']))) (fput' H ig (.tip (i + 1) 64)) := fun H => oTip_ok hG2 (by omega) (by omega)
    repeat' (first | refine wp_skip ?_ | refine wp_exit ?_ | refine wp_ret ?_ | refine wp_seq ?_ | refine wp_cond ?_ | refine wp_block ?_ | refine wp_dreg ?_ | refine wp_reg ?_ | simp (maxSteps := 2000000) (disch := first | omega | (simp only [next_new, next_put]; omega) | fail) only [wr_mv, wr_len, wr_fa, wr_nil, wr_ext, wr_not, wr_ixs, wr_sl, wr_ld1, wr_ldN, wr_st, wr_alloc, wr_box, wr_mkmap, wr_int, wr_pick, wr_build, wr_buildSl, wr_look, wr_mk, wr_app, wr_sbin, wr_fog, wr_end, wd_mv, wd_fa, wd_nil, wd_ext, wd_ixs, wd_alloc, wd_build, wd_buildSl, wd_ld1, wd_ldN, wd_st, wd_mset, wd_app, wd_int, wd_end, sO_ok, sD_ok, sR_ok, sL_ok, sB_t, sB_f, sG_t, sG_f, kseq_n, kseq_r, kseq_e, kblk_n, kblk_r, kblk_e, kfn_n, kfn_r, sC_ok, kc_eq, kd_eq, oFa_ptr, oFa_ep, oNil_ptr, oNil_ep, oLen_sl, oLen_row, oLen_nil, oExt_0, oExt_1, oExt_2, okq_some, oNot_bool, oSl_nil, rc_ptr, rc_ep, oRd, oEp, oLd1_some, oLdN_some, oSt, oInt_int, oPick_b, oBuild_some, oBuildSl_some, ffill_nil, oFill_some, ffill, patch, oFind_some, oFind_none, oOne_some, oTwo_some, cfin_one, cfin_two, wanted_b, wanted_u, evs_nil, evs_cons, fargs_nil, fargs_cons, cells_int, cells_str, cells_agg, cells_sl, cells_row, cells_map, cells_ptr, cells_bool, cells_nil, one_nil, one_cons, one_int, one_str, one_sl, one_row, one_map, one_ptr, one_bool, one_vnil, deql, dneq, dlss, dgtr, dgeq, iEq_n, iLt_n, iLe, beq_dec, blt_dec, ble_dec, mem_nil, readOk_nil, readOk_rd, loudOk_nil, loudOk_loud, loudOk_none, List.drop_succ_cons, List.drop_zero, List.drop_nil, List.take_succ_cons, List.take_zero, List.take_nil, List.length_cons, List.length_nil, List.cons_append, List.nil_append, Nat.reduceAdd, Nat.reduceEqDiff, Nat.reduceLeDiff, decide_true, decide_false, Bool.and_self, Bool.and_true, Bool.true_and, Bool.not_true, Bool.not_false, cond_true, cond_false, true_and, and_true, Gt_St, p0_eq, kD_eq, reduceIte, Nat.add_zero, Nat.zero_add, next_new, next_put, hget_new_le, hget_new_ne, hget_put_same, hget_put_ne, g14, g15, g16, g4, g5, hd, kloop_n, kloop_e, hix, k1, k2, k3, k5, k6, k7, hmk, wr_bi, min_bi, List.map_cons, List.map_nil, hF, oApp_unf, oApp_unil, hX1, hG1, hapX, hapG, Nat.reduceMul, add_small, loudT, readT, readOk_rd, loudOk_rdS, mem_cons, Bool.true_or, Bool.or_true, Bool.or_false, eq_self])
    refine ⟨m - (i + 1), by omega, i + 1, ix, ig, csx ++ [.int .i64 x.kind, .str (strD x.op), .int .u64 x.n, .str (strD x.name), kd'], csg ++ [.int .i64 x.kind, .str (strD x.op), .int .u64 x.n, .str (strD x.name), kd'], _, _, by omega, rfl, ?_, ?_, ?_, ?_, ?_, ?_, .inr ⟨by omega, rfl, ?_, ?_, ?_, ?_⟩, .inr ⟨by omega, rfl, ?_, ?_, ?_, ?_⟩, fun _ => hne, ?_, ?_, ?_⟩
    all_goals try simp (maxSteps := 2000000) (disch := first | omega | (simp only [next_new, next_put]; omega) | fail) only [wr_mv, wr_len, wr_fa, wr_nil, wr_ext, wr_not, wr_ixs, wr_sl, wr_ld1, wr_ldN, wr_st, wr_alloc, wr_box, wr_mkmap, wr_int, wr_pick, wr_build, wr_buildSl, wr_look, wr_mk, wr_app, wr_sbin, wr_fog, wr_end, wd_mv, wd_fa, wd_nil, wd_ext, wd_ixs, wd_alloc, wd_build, wd_buildSl, wd_ld1, wd_ldN, wd_st, wd_mset, wd_app, wd_int, wd_end, sO_ok, sD_ok, sR_ok, sL_ok, sB_t, sB_f, sG_t, sG_f, kseq_n, kseq_r, kseq_e, kblk_n, kblk_r, kblk_e, kfn_n, kfn_r, sC_ok, kc_eq, kd_eq, oFa_ptr, oFa_ep, oNil_ptr, oNil_ep, oLen_sl, oLen_row, oLen_nil, oExt_0, oExt_1, oExt_2, okq_some, oNot_bool, oSl_nil, rc_ptr, rc_ep, oRd, oEp, oLd1_some, oLdN_some, oSt, oInt_int, oPick_b, oBuild_some, oBuildSl_some, ffill_nil, oFill_some, ffill, patch, oFind_some, oFind_none, oOne_some, oTwo_some, cfin_one, cfin_two, wanted_b, wanted_u, evs_nil, evs_cons, fargs_nil, fargs_cons, cells_int, cells_str, cells_agg, cells_sl, cells_row, cells_map, cells_ptr, cells_bool, cells_nil, one_nil, one_cons, one_int, one_str, one_sl, one_row, one_map, one_ptr, one_bool, one_vnil, deql, dneq, dlss, dgtr, dgeq, iEq_n, iLt_n, iLe, beq_dec, blt_dec, ble_dec, mem_nil, readOk_nil, readOk_rd, loudOk_nil, loudOk_loud, loudOk_none, List.drop_succ_cons, List.drop_zero, List.drop_nil, List.take_succ_cons, List.take_zero, List.take_nil, List.length_cons, List.length_nil, List.cons_append, List.nil_append, Nat.reduceAdd, Nat.reduceEqDiff, Nat.reduceLeDiff, decide_true, decide_false, Bool.and_self, Bool.and_true, Bool.true_and, Bool.not_true, Bool.not_false, cond_true, cond_false, true_and, and_true, Gt_St, p0_eq, kD_eq, reduceIte, Nat.add_zero, Nat.zero_add, next_new, next_put, hget_new_le, hget_new_ne, hget_put_same, hget_put_ne, g14, g15, g16, g4, g5]
    all_goals try omega
    · simp only [List.length_append, hX2, List.length_cons, List.length_nil]; omega
    · simp only [List.length_append, hG2, List.length_cons, List.length_nil]; omega
    · rw [hsn]
      exact XS.snoc hXS (by rw [hil]; exact hX2) hkd'
    · exact (((((((hgr.new _).put (by omega) _).put (by omega) _).new _).put (by omega) _).put (Nat.le_refl _) _).new _).put (by omega) _
end Go.Abs.Sy
