/- What an expression comes to, by rules. -/
import Derived.Test.YtadigpaglappbaaMay
import Derived.Test.YtadigpaglappbaaExprN
set_option linter.unusedVariables false
set_option linter.unusedSimpArgs false
namespace Go.Abs.Sy
open Go.Abs.Run hiding op
open Go.Proofs.Ytadigpaglappbaa.Word Go.Proofs.Ytadigpaglappbaa.BoundsN Go.Proofs.Ytadigpaglappbaa.ExprN

theorem wop_ev {E : Env} (s : ByteArray) (a b : Int) (ha : U a) (hb : U b) (h : H) : WC E TT 24 [.str (strD s), .int .u64 a, .int .u64 b] h fun d h' => d = .tup [.int .u64 (Go.Proofs.Ytadigpaglappbaa.Word.op s.toList a b).1, .int .i64 (Go.Proofs.Ytadigpaglappbaa.Word.op s.toList a b).2] ∧ h' = h := by
  refine wc_lib tt24 ?_
  have h1 : uOk a = true := by simp only [uOk, decide_eq_true ha.lo, decide_eq_true ha.hi, Bool.and_self]
  have h2 : uOk b = true := by simp only [uOk, decide_eq_true hb.lo, decide_eq_true hb.hi, Bool.and_self]
  simp only [libP, plains, D.plain, D.plain0, D.plain1, strV_strD, plWop, h1, h2, Bool.and_self, cond_true]
  exact ⟨rfl, rfl⟩
theorem truth_ev {E : Env} (b : Bool) (h : H) : WC E TT 29 [.v (.bool b)] h fun d h' => d = .int .u64 (truth b) ∧ h' = h := by
  refine wc_lib tt29 ?_
  simp only [libP, plains, D.plain, D.plain0, D.plain1, plTruth]
  exact ⟨rfl, rfl⟩
/-- What a slice of names tells. -/
def EnvD (d : D) (env : ByteArray → Option Int) : Prop := ∀ h s, libGet [d, .str (strD s)] h = .ok (.tup [.int .u64 ((env s).getD 0), .v (.bool (env s).isSome)]) h
theorem get_ev {E : Env} {d : D} {env : ByteArray → Option Int} (he : EnvD d env) (s : ByteArray) (h : H) : WC E TT 28 [d, .str (strD s)] h fun r h' => r = .tup [.int .u64 ((env s).getD 0), .v (.bool (env s).isSome)] ∧ h' = h := by
  refine wc_lib tt28 ?_
  rw [he]
  exact ⟨rfl, rfl⟩

/-! The map of what is done. -/
def MI (f : Nat → D) (em : List (D × D)) : Prop := ∀ e ∈ em, ∃ j : Nat, e = (.int .i64 (.ofNat j), f j)
theorem sameKey_n (a b : Nat) : sameKey1 (.int .i64 (.ofNat a)) (.int .i64 (.ofNat b)) = some (decide (a = b)) := by
  have : decide ((Int.ofNat a) = Int.ofNat b) = decide (a = b) := by
    rw [Bool.eq_iff_iff]; simp only [decide_eq_true_eq]; exact ⟨fun h => Int.ofNat.inj h, fun h => by rw [h]⟩
  simp only [sameKey1, decide_true, cond_true, this]
theorem find_mi {f : Nat → D} {em : List (D × D)} (hm : MI f em) (k : Nat) : findMap (.int .i64 (.ofNat k)) em = some none ∨ findMap (.int .i64 (.ofNat k)) em = some (some (f k)) := by
  induction em with
  | nil => exact .inl rfl
  | cons e r ih =>
    obtain ⟨j, rfl⟩ := hm e (List.mem_cons_self ..)
    simp only [findMap, sameKey_n]
    by_cases hj : k = j
    · subst hj; simp only [decide_true]; exact .inr trivial
    · simp only [decide_eq_false hj]; exact ih fun e he => hm e (List.mem_cons_of_mem _ he)
theorem set_mi {f : Nat → D} {em : List (D × D)} (hm : MI f em) (k : Nat) : ∃ em', setMap (.int .i64 (.ofNat k)) (f k) em = some em' ∧ MI f em' := by
  induction em with
  | nil => exact ⟨_, rfl, fun e he => by simp at he; exact ⟨k, he⟩⟩
  | cons e r ih =>
    obtain ⟨j, rfl⟩ := hm e (List.mem_cons_self ..)
    have hr : MI f r := fun e he => hm e (List.mem_cons_of_mem _ he)
    simp only [setMap, sameKey_n]
    by_cases hj : k = j
    · subst hj
      simp only [decide_true]
      exact ⟨_, rfl, fun e he => by
        rcases List.mem_cons.1 he with rfl | he
        · exact ⟨k, rfl⟩
        · exact hr e he⟩
    · simp only [decide_eq_false hj]
      obtain ⟨em', h1, h2⟩ := ih hr
      rw [h1]
      exact ⟨_, rfl, fun e he => by
        rcases List.mem_cons.1 he with rfl | he
        · exact ⟨j, rfl⟩
        · exact h2 e he⟩
/-- Only the map is written; new blocks come. -/
def NI (f : Nat → D) (ml : Nat) (h h' : H) : Prop := h.next ≤ h'.next ∧ (∀ l, l < h.next → l ≠ ml → hget h'.mem l = hget h.mem l) ∧ ∃ em', hget h'.mem ml = some (.map em') ∧ MI f em'
/-- What is done lies at rl, of expressions and names. -/
structure Job (f : Nat → D) (t : TypeId) (xd ed : D) (rl ml : Nat) (h : H) : Prop where
  rec_ : hget h.mem rl = some (.cells t [xd, ed, .map ml])
  map : ∃ em, hget h.mem ml = some (.map em) ∧ MI f em
  hrl : rl < h.next
  hml : ml < h.next
  ne : rl ≠ ml
section
variable {f : Nat → D} {t : TypeId} {xd ed : D} {rl ml : Nat} {h h' h2 : H}
theorem Job.next (hr : Job f t xd ed rl ml h) (hn : NI f ml h h') : Job f t xd ed rl ml h' := ⟨(hn.2.1 _ hr.hrl hr.ne).trans hr.rec_, hn.2.2, Nat.lt_of_lt_of_le hr.hrl hn.1, Nat.lt_of_lt_of_le hr.hml hn.1, hr.ne⟩
theorem Job.refl (hr : Job f t xd ed rl ml h) : NI f ml h h := ⟨Nat.le_refl _, fun _ _ _ => rfl, hr.map⟩
theorem NI.trans (a : NI f ml h h') (b : NI f ml h' h2) : NI f ml h h2 := ⟨Nat.le_trans a.1 b.1, fun l hl hm => (b.2.1 l (Nat.lt_of_lt_of_le hl a.1) hm).trans (a.2.1 l hl hm), b.2.2⟩
theorem NI.gr (a : NI f ml h h') (hm : ml < h'.next) (b : Gr h' h2) : NI f ml h h2 := ⟨Nat.le_trans a.1 b.1, fun l hl hne => (b.2 l (Nat.lt_of_lt_of_le hl a.1)).trans (a.2.1 l hl hne), by
  obtain ⟨em, h1, h3⟩ := a.2.2
  exact ⟨em, (b.2 ml hm).trans h1, h3⟩⟩
theorem NI.pre {h0 : H} (g : Gr h h0) (n : NI f ml h0 h') : NI f ml h h' := ⟨Nat.le_trans g.1 n.1, fun l hl hm => (n.2.1 l (Nat.lt_of_lt_of_le hl g.1) hm).trans (g.2 l hl), n.2.2⟩
theorem NI.new (a : NI f ml h h') (hm : ml < h'.next) (o : AObj) : NI f ml h (fnew h' o) := a.gr hm ((Gr.refl _).new o)
theorem NI.put (a : NI f ml h h') {l : Nat} (hl : h.next ≤ l) (hm : ml ≠ l) (o : AObj) : NI f ml h (fput' h' l o) := ⟨a.1, fun j hj hne => (hget_put_ne (by omega)).trans (a.2.1 j hj hne), by
  obtain ⟨em, h1, h3⟩ := a.2.2
  exact ⟨em, (hget_put_ne hm).trans h1, h3⟩⟩
theorem Job.gr (hr : Job f t xd ed rl ml h) (b : Gr h h') : Job f t xd ed rl ml h' := ⟨(b.2 _ hr.hrl).trans hr.rec_, by
  obtain ⟨em, h1, h3⟩ := hr.map
  exact ⟨em, (b.2 ml hr.hml).trans h1, h3⟩, Nat.lt_of_lt_of_le hr.hrl b.1, Nat.lt_of_lt_of_le hr.hml b.1, hr.ne⟩
end
def vd (p : Int × Int) : D := .agg [.int .u64 p.1, .int .i64 p.2]
theorem KD.cons {d : D} {c : Int} {r : List Int} (hk : KD d (c :: r)) : d = .sl 0 (r.length + 1) (.int .i64 c :: r.map fun c => .int .i64 c) := by
  rcases hk with ⟨_, h⟩ | h
  · cases h
  · exact h
theorem ix0 {n : Nat} {c : D} {r : List D} (hn : 0 < n) (h : H) : oIxs 1 (.sl 0 n (c :: r)) (.int .i64 (.ofNat 0)) h = .ok (.ep (c :: r)) h := oIxs_sl hn rfl
theorem ix1 {n : Nat} {b c : D} {r : List D} (hn : 1 < n) (h : H) : oIxs 1 (.sl 0 n (b :: c :: r)) (.int .i64 (.ofNat 1)) h = .ok (.ep (c :: r)) h := oIxs_sl hn rfl

section
variable {E : Env} {id : Nat} {es : List EX} {cs : List D} {env : ByteArray → Option Int} {ed : D}
def NodeS (E : Env) (id : Nat) (es : List EX) (cs : List D) (env : ByteArray → Option Int) (ed : D) (k : Nat) : Prop := good es k = true → ∀ h rl ml, Job (fun j => vd (val es env j)) 81 (.sl id es.length cs) ed rl ml h →
  WC E TT 15 [.ptr rl 0, .int .i64 (.ofNat k)] h fun d h' => d = vd (val es env k) ∧ NI (fun j => vd (val es env j)) ml h h'

set_option maxHeartbeats 4000000 in
theorem bin_ev (hes : ∀ x ∈ es, U x.n) (hen : ∀ s n, env s = some n → U n) {k : Nat} (ih : ∀ j, j < k → NodeS E id es cs env ed j) {x : EX} (hx : es[k]? = some x) (h3 : x.kind = 3) (hg : good es k = true) {kd : D} (hkd : KD kd x.kids) {h : H} {rl ml : Nat} (hr : Job (fun j => vd (val es env j)) 81 (.sl id es.length cs) ed rl ml h) :
    WC E TT 30 [.ptr rl 0, .agg (xc x kd)] h fun d h' => d = vd (val es env k) ∧ NI (fun j => vd (val es env j)) ml h h' := by
  obtain ⟨c, d, hc, ⟨c0, hl, hgc⟩, d0, hr', hgd⟩ := good_two hg hx h3
  have hval := val_bin (env := env) hx h3 hc hl hr'
  obtain ⟨c', rfl⟩ : ∃ c' : Nat, c = .ofNat c' := ⟨c.toNat, by simp only [Int.ofNat_eq_natCast]; omega⟩
  obtain ⟨d', rfl⟩ : ∃ d' : Nat, d = .ofNat d' := ⟨d.toNat, by simp only [Int.ofNat_eq_natCast]; omega⟩
  have hl : c' < k := hl
  have hr' : d' < k := hr'
  have hgc : good es c' = true := hgc
  have hgd : good es d' = true := hgd
  have uc := val_U hes hen c' hgc
  have ud := val_U hes hen d' hgd
  have hval : val es env k = if (val es env c').2 = 0 then (if (val es env d').2 = 0 then Go.Proofs.Ytadigpaglappbaa.Word.op x.op.toList (val es env c').1 (val es env d').1 else val es env d') else val es env c' := hval
  rw [hc] at hkd
  have hkd := hkd.cons
  subst hkd
  refine wc_fn tt30 ?_
  simp only [ss, fargs_cons, fargs_nil, xc, List.map_cons, List.map_nil, List.length_cons, List.length_nil, Nat.reduceAdd]
  repeat' (first | refine wp_skip ?_ | refine wp_exit ?_ | refine wp_ret ?_ | refine wp_seq ?_ | refine wp_cond ?_ | refine wp_block ?_ | refine wp_dreg ?_ | refine wp_reg ?_ | simp (maxSteps := 2000000) (disch := first | omega | (simp only [next_new, next_put]; omega) | fail) only [wr_mv, wr_len, wr_fa, wr_nil, wr_ext, wr_not, wr_ixs, wr_sl, wr_ld1, wr_ldN, wr_st, wr_alloc, wr_box, wr_mkmap, wr_int, wr_pick, wr_build, wr_buildSl, wr_look, wr_mk, wr_app, wr_sbin, wr_fog, wr_end, wd_mv, wd_fa, wd_nil, wd_ext, wd_ixs, wd_alloc, wd_build, wd_buildSl, wd_ld1, wd_ldN, wd_st, wd_mset, wd_app, wd_int, wd_end, sO_ok, sD_ok, sR_ok, sL_ok, sB_t, sB_f, sG_t, sG_f, kseq_n, kseq_r, kseq_e, kblk_n, kblk_r, kblk_e, kfn_n, kfn_r, sC_ok, kc_eq, kd_eq, oFa_ptr, oFa_ep, oNil_ptr, oNil_ep, oLen_sl, oLen_row, oLen_nil, oExt_0, oExt_1, oExt_2, okq_some, oNot_bool, oSl_nil, rc_ptr, rc_ep, oRd, oEp, oLd1_some, oLdN_some, oSt, oInt_int, oPick_b, oBuild_some, oBuildSl_some, ffill_nil, oFill_some, ffill, patch, oFind_some, oFind_none, oOne_some, oTwo_some, cfin_one, cfin_two, wanted_b, wanted_u, evs_nil, evs_cons, fargs_nil, fargs_cons, cells_int, cells_str, cells_agg, cells_sl, cells_row, cells_map, cells_ptr, cells_bool, cells_nil, one_nil, one_cons, one_int, one_str, one_sl, one_row, one_map, one_ptr, one_bool, one_vnil, deql, dneq, dlss, dgtr, dgeq, iEq_n, iLt_n, iLe, beq_dec, blt_dec, ble_dec, mem_nil, readOk_nil, readOk_rd, loudOk_nil, loudOk_loud, loudOk_none, List.drop_succ_cons, List.drop_zero, List.drop_nil, List.take_succ_cons, List.take_zero, List.take_nil, List.length_cons, List.length_nil, List.cons_append, List.nil_append, Nat.reduceAdd, Nat.reduceEqDiff, Nat.reduceLeDiff, decide_true, decide_false, Bool.and_self, Bool.and_true, Bool.true_and, Bool.not_true, Bool.not_false, cond_true, cond_false, true_and, and_true, Gt_St, p0_eq, kD_eq, reduceIte, Nat.add_zero, Nat.zero_add, next_new, next_put, hget_new_le, hget_new_ne, hget_put_same, hget_put_ne, ix0, ix1])
  refine wr_call ?_
  simp (maxSteps := 2000000) (disch := first | omega | (simp only [next_new, next_put]; omega) | fail) only [wr_mv, wr_len, wr_fa, wr_nil, wr_ext, wr_not, wr_ixs, wr_sl, wr_ld1, wr_ldN, wr_st, wr_alloc, wr_box, wr_mkmap, wr_int, wr_pick, wr_build, wr_buildSl, wr_look, wr_mk, wr_app, wr_sbin, wr_fog, wr_end, wd_mv, wd_fa, wd_nil, wd_ext, wd_ixs, wd_alloc, wd_build, wd_buildSl, wd_ld1, wd_ldN, wd_st, wd_mset, wd_app, wd_int, wd_end, sO_ok, sD_ok, sR_ok, sL_ok, sB_t, sB_f, sG_t, sG_f, kseq_n, kseq_r, kseq_e, kblk_n, kblk_r, kblk_e, kfn_n, kfn_r, sC_ok, kc_eq, kd_eq, oFa_ptr, oFa_ep, oNil_ptr, oNil_ep, oLen_sl, oLen_row, oLen_nil, oExt_0, oExt_1, oExt_2, okq_some, oNot_bool, oSl_nil, rc_ptr, rc_ep, oRd, oEp, oLd1_some, oLdN_some, oSt, oInt_int, oPick_b, oBuild_some, oBuildSl_some, ffill_nil, oFill_some, ffill, patch, oFind_some, oFind_none, oOne_some, oTwo_some, cfin_one, cfin_two, wanted_b, wanted_u, evs_nil, evs_cons, fargs_nil, fargs_cons, cells_int, cells_str, cells_agg, cells_sl, cells_row, cells_map, cells_ptr, cells_bool, cells_nil, one_nil, one_cons, one_int, one_str, one_sl, one_row, one_map, one_ptr, one_bool, one_vnil, deql, dneq, dlss, dgtr, dgeq, iEq_n, iLt_n, iLe, beq_dec, blt_dec, ble_dec, mem_nil, readOk_nil, readOk_rd, loudOk_nil, loudOk_loud, loudOk_none, List.drop_succ_cons, List.drop_zero, List.drop_nil, List.take_succ_cons, List.take_zero, List.take_nil, List.length_cons, List.length_nil, List.cons_append, List.nil_append, Nat.reduceAdd, Nat.reduceEqDiff, Nat.reduceLeDiff, decide_true, decide_false, Bool.and_self, Bool.and_true, Bool.true_and, Bool.not_true, Bool.not_false, cond_true, cond_false, true_and, and_true, Gt_St, p0_eq, kD_eq, reduceIte, Nat.add_zero, Nat.zero_add, next_new, next_put, hget_new_le, hget_new_ne, hget_put_same, hget_put_ne]
  refine (ih c' hl hgc _ rl ml (hr.gr ?_)).mono ?_
  · exact ((Gr.refl h).new _).new _
  rintro d1 h1 ⟨rfl, n1⟩
  have q0 := hr.hml
  have q1 : h.next + 1 + 1 ≤ h1.next := n1.1
  have r1 := (hr.gr (((Gr.refl h).new _).new _)).next n1
  have X1 := (n1.2.1 h.next (by show _ < h.next + 1 + 1; omega) (by omega)).trans ((hget_new_ne (by show _ ≠ h.next + 1; omega)).trans (hget_new_eq rfl))
  have X2 := (n1.2.1 (h.next + 1) (by show _ < h.next + 1 + 1; omega) (by omega)).trans (hget_new_eq rfl)
  have N1 := NI.pre (((Gr.refl h).new _).new _) n1
  clear n1
  by_cases e1 : (val es env c').2 = 0
  rotate_left
  · have e1' : iEq (val es env c').2 (.ofNat 0) = false := by rw [iEq_eq]; exact decide_eq_false e1
    rw [if_neg e1] at hval
    repeat' (first | refine wp_skip ?_ | refine wp_exit ?_ | refine wp_ret ?_ | refine wp_seq ?_ | refine wp_cond ?_ | refine wp_block ?_ | refine wp_dreg ?_ | refine wp_reg ?_ | simp (maxSteps := 2000000) (disch := first | omega | (simp only [next_new, next_put]; omega) | fail) only [wr_mv, wr_len, wr_fa, wr_nil, wr_ext, wr_not, wr_ixs, wr_sl, wr_ld1, wr_ldN, wr_st, wr_alloc, wr_box, wr_mkmap, wr_int, wr_pick, wr_build, wr_buildSl, wr_look, wr_mk, wr_app, wr_sbin, wr_fog, wr_end, wd_mv, wd_fa, wd_nil, wd_ext, wd_ixs, wd_alloc, wd_build, wd_buildSl, wd_ld1, wd_ldN, wd_st, wd_mset, wd_app, wd_int, wd_end, sO_ok, sD_ok, sR_ok, sL_ok, sB_t, sB_f, sG_t, sG_f, kseq_n, kseq_r, kseq_e, kblk_n, kblk_r, kblk_e, kfn_n, kfn_r, sC_ok, kc_eq, kd_eq, oFa_ptr, oFa_ep, oNil_ptr, oNil_ep, oLen_sl, oLen_row, oLen_nil, oExt_0, oExt_1, oExt_2, okq_some, oNot_bool, oSl_nil, rc_ptr, rc_ep, oRd, oEp, oLd1_some, oLdN_some, oSt, oInt_int, oPick_b, oBuild_some, oBuildSl_some, ffill_nil, oFill_some, ffill, patch, oFind_some, oFind_none, oOne_some, oTwo_some, cfin_one, cfin_two, wanted_b, wanted_u, evs_nil, evs_cons, fargs_nil, fargs_cons, cells_int, cells_str, cells_agg, cells_sl, cells_row, cells_map, cells_ptr, cells_bool, cells_nil, one_nil, one_cons, one_int, one_str, one_sl, one_row, one_map, one_ptr, one_bool, one_vnil, deql, dneq, dlss, dgtr, dgeq, iEq_n, iLt_n, iLe, beq_dec, blt_dec, ble_dec, mem_nil, readOk_nil, readOk_rd, loudOk_nil, loudOk_loud, loudOk_none, List.drop_succ_cons, List.drop_zero, List.drop_nil, List.take_succ_cons, List.take_zero, List.take_nil, List.length_cons, List.length_nil, List.cons_append, List.nil_append, Nat.reduceAdd, Nat.reduceEqDiff, Nat.reduceLeDiff, decide_true, decide_false, Bool.and_self, Bool.and_true, Bool.true_and, Bool.not_true, Bool.not_false, cond_true, cond_false, true_and, and_true, Gt_St, p0_eq, kD_eq, reduceIte, Nat.add_zero, Nat.zero_add, next_new, next_put, hget_new_le, hget_new_ne, hget_put_same, hget_put_ne, X1, X2, vd, e1'])
    rw [hval]
    exact ⟨rfl, ((N1.new (by omega) _).put (by omega) (by omega) _).put (by omega) (by omega) _⟩
  have e1' : iEq (val es env c').2 (.ofNat 0) = true := by rw [iEq_eq]; exact decide_eq_true e1
  rw [if_pos e1] at hval
  repeat' (first | refine wp_skip ?_ | refine wp_exit ?_ | refine wp_ret ?_ | refine wp_seq ?_ | refine wp_cond ?_ | refine wp_block ?_ | refine wp_dreg ?_ | refine wp_reg ?_ | simp (maxSteps := 2000000) (disch := first | omega | (simp only [next_new, next_put]; omega) | fail) only [wr_mv, wr_len, wr_fa, wr_nil, wr_ext, wr_not, wr_ixs, wr_sl, wr_ld1, wr_ldN, wr_st, wr_alloc, wr_box, wr_mkmap, wr_int, wr_pick, wr_build, wr_buildSl, wr_look, wr_mk, wr_app, wr_sbin, wr_fog, wr_end, wd_mv, wd_fa, wd_nil, wd_ext, wd_ixs, wd_alloc, wd_build, wd_buildSl, wd_ld1, wd_ldN, wd_st, wd_mset, wd_app, wd_int, wd_end, sO_ok, sD_ok, sR_ok, sL_ok, sB_t, sB_f, sG_t, sG_f, kseq_n, kseq_r, kseq_e, kblk_n, kblk_r, kblk_e, kfn_n, kfn_r, sC_ok, kc_eq, kd_eq, oFa_ptr, oFa_ep, oNil_ptr, oNil_ep, oLen_sl, oLen_row, oLen_nil, oExt_0, oExt_1, oExt_2, okq_some, oNot_bool, oSl_nil, rc_ptr, rc_ep, oRd, oEp, oLd1_some, oLdN_some, oSt, oInt_int, oPick_b, oBuild_some, oBuildSl_some, ffill_nil, oFill_some, ffill, patch, oFind_some, oFind_none, oOne_some, oTwo_some, cfin_one, cfin_two, wanted_b, wanted_u, evs_nil, evs_cons, fargs_nil, fargs_cons, cells_int, cells_str, cells_agg, cells_sl, cells_row, cells_map, cells_ptr, cells_bool, cells_nil, one_nil, one_cons, one_int, one_str, one_sl, one_row, one_map, one_ptr, one_bool, one_vnil, deql, dneq, dlss, dgtr, dgeq, iEq_n, iLt_n, iLe, beq_dec, blt_dec, ble_dec, mem_nil, readOk_nil, readOk_rd, loudOk_nil, loudOk_loud, loudOk_none, List.drop_succ_cons, List.drop_zero, List.drop_nil, List.take_succ_cons, List.take_zero, List.take_nil, List.length_cons, List.length_nil, List.cons_append, List.nil_append, Nat.reduceAdd, Nat.reduceEqDiff, Nat.reduceLeDiff, decide_true, decide_false, Bool.and_self, Bool.and_true, Bool.true_and, Bool.not_true, Bool.not_false, cond_true, cond_false, true_and, and_true, Gt_St, p0_eq, kD_eq, reduceIte, Nat.add_zero, Nat.zero_add, next_new, next_put, hget_new_le, hget_new_ne, hget_put_same, hget_put_ne, X1, X2, vd, e1', ix0, ix1])
  refine wr_call ?_
  simp (maxSteps := 2000000) (disch := first | omega | (simp only [next_new, next_put]; omega) | fail) only [wr_mv, wr_len, wr_fa, wr_nil, wr_ext, wr_not, wr_ixs, wr_sl, wr_ld1, wr_ldN, wr_st, wr_alloc, wr_box, wr_mkmap, wr_int, wr_pick, wr_build, wr_buildSl, wr_look, wr_mk, wr_app, wr_sbin, wr_fog, wr_end, wd_mv, wd_fa, wd_nil, wd_ext, wd_ixs, wd_alloc, wd_build, wd_buildSl, wd_ld1, wd_ldN, wd_st, wd_mset, wd_app, wd_int, wd_end, sO_ok, sD_ok, sR_ok, sL_ok, sB_t, sB_f, sG_t, sG_f, kseq_n, kseq_r, kseq_e, kblk_n, kblk_r, kblk_e, kfn_n, kfn_r, sC_ok, kc_eq, kd_eq, oFa_ptr, oFa_ep, oNil_ptr, oNil_ep, oLen_sl, oLen_row, oLen_nil, oExt_0, oExt_1, oExt_2, okq_some, oNot_bool, oSl_nil, rc_ptr, rc_ep, oRd, oEp, oLd1_some, oLdN_some, oSt, oInt_int, oPick_b, oBuild_some, oBuildSl_some, ffill_nil, oFill_some, ffill, patch, oFind_some, oFind_none, oOne_some, oTwo_some, cfin_one, cfin_two, wanted_b, wanted_u, evs_nil, evs_cons, fargs_nil, fargs_cons, cells_int, cells_str, cells_agg, cells_sl, cells_row, cells_map, cells_ptr, cells_bool, cells_nil, one_nil, one_cons, one_int, one_str, one_sl, one_row, one_map, one_ptr, one_bool, one_vnil, deql, dneq, dlss, dgtr, dgeq, iEq_n, iLt_n, iLe, beq_dec, blt_dec, ble_dec, mem_nil, readOk_nil, readOk_rd, loudOk_nil, loudOk_loud, loudOk_none, List.drop_succ_cons, List.drop_zero, List.drop_nil, List.take_succ_cons, List.take_zero, List.take_nil, List.length_cons, List.length_nil, List.cons_append, List.nil_append, Nat.reduceAdd, Nat.reduceEqDiff, Nat.reduceLeDiff, decide_true, decide_false, Bool.and_self, Bool.and_true, Bool.true_and, Bool.not_true, Bool.not_false, cond_true, cond_false, true_and, and_true, Gt_St, p0_eq, kD_eq, reduceIte, Nat.add_zero, Nat.zero_add, next_new, next_put, hget_new_le, hget_new_ne, hget_put_same, hget_put_ne]
  refine (ih d' hr' hgd _ rl ml (r1.gr ?_)).mono ?_
  · exact ((Gr.refl h1).new _).put (Nat.le_refl _) _
  rintro d1 h2 ⟨rfl, n2⟩
  have q2 : h1.next + 1 ≤ h2.next := n2.1
  have r2 := (r1.gr (((Gr.refl h1).new _).put (Nat.le_refl _) _)).next n2
  have Y1 := (n2.2.1 h.next (by show _ < h1.next + 1; omega) (by omega)).trans ((hget_put_ne (by omega)).trans ((hget_new_ne (by omega)).trans X1))
  have Y2 := (n2.2.1 (h.next + 1) (by show _ < h1.next + 1; omega) (by omega)).trans ((hget_put_ne (by omega)).trans ((hget_new_ne (by omega)).trans X2))
  have Y3 := (n2.2.1 h1.next (by show _ < h1.next + 1; omega) (by omega)).trans (hget_put_eq rfl)
  have N2 := N1.trans (NI.pre (((Gr.refl h1).new _).put (Nat.le_refl _) _) n2)
  clear n2 X1 X2
  by_cases e2 : (val es env d').2 = 0
  rotate_left
  · have e2' : iEq (val es env d').2 (.ofNat 0) = false := by rw [iEq_eq]; exact decide_eq_false e2
    rw [if_neg e2] at hval
    repeat' (first | refine wp_skip ?_ | refine wp_exit ?_ | refine wp_ret ?_ | refine wp_seq ?_ | refine wp_cond ?_ | refine wp_block ?_ | refine wp_dreg ?_ | refine wp_reg ?_ | simp (maxSteps := 2000000) (disch := first | omega | (simp only [next_new, next_put]; omega) | fail) only [wr_mv, wr_len, wr_fa, wr_nil, wr_ext, wr_not, wr_ixs, wr_sl, wr_ld1, wr_ldN, wr_st, wr_alloc, wr_box, wr_mkmap, wr_int, wr_pick, wr_build, wr_buildSl, wr_look, wr_mk, wr_app, wr_sbin, wr_fog, wr_end, wd_mv, wd_fa, wd_nil, wd_ext, wd_ixs, wd_alloc, wd_build, wd_buildSl, wd_ld1, wd_ldN, wd_st, wd_mset, wd_app, wd_int, wd_end, sO_ok, sD_ok, sR_ok, sL_ok, sB_t, sB_f, sG_t, sG_f, kseq_n, kseq_r, kseq_e, kblk_n, kblk_r, kblk_e, kfn_n, kfn_r, sC_ok, kc_eq, kd_eq, oFa_ptr, oFa_ep, oNil_ptr, oNil_ep, oLen_sl, oLen_row, oLen_nil, oExt_0, oExt_1, oExt_2, okq_some, oNot_bool, oSl_nil, rc_ptr, rc_ep, oRd, oEp, oLd1_some, oLdN_some, oSt, oInt_int, oPick_b, oBuild_some, oBuildSl_some, ffill_nil, oFill_some, ffill, patch, oFind_some, oFind_none, oOne_some, oTwo_some, cfin_one, cfin_two, wanted_b, wanted_u, evs_nil, evs_cons, fargs_nil, fargs_cons, cells_int, cells_str, cells_agg, cells_sl, cells_row, cells_map, cells_ptr, cells_bool, cells_nil, one_nil, one_cons, one_int, one_str, one_sl, one_row, one_map, one_ptr, one_bool, one_vnil, deql, dneq, dlss, dgtr, dgeq, iEq_n, iLt_n, iLe, beq_dec, blt_dec, ble_dec, mem_nil, readOk_nil, readOk_rd, loudOk_nil, loudOk_loud, loudOk_none, List.drop_succ_cons, List.drop_zero, List.drop_nil, List.take_succ_cons, List.take_zero, List.take_nil, List.length_cons, List.length_nil, List.cons_append, List.nil_append, Nat.reduceAdd, Nat.reduceEqDiff, Nat.reduceLeDiff, decide_true, decide_false, Bool.and_self, Bool.and_true, Bool.true_and, Bool.not_true, Bool.not_false, cond_true, cond_false, true_and, and_true, Gt_St, p0_eq, kD_eq, reduceIte, Nat.add_zero, Nat.zero_add, next_new, next_put, hget_new_le, hget_new_ne, hget_put_same, hget_put_ne, Y1, Y2, Y3, vd, e2'])
    rw [hval]
    exact ⟨rfl, ((N2.new (by omega) _).put (by omega) (by omega) _).put (by omega) (by omega) _⟩
  have e2' : iEq (val es env d').2 (.ofNat 0) = true := by rw [iEq_eq]; exact decide_eq_true e2
  rw [if_pos e2] at hval
  repeat' (first | refine wp_skip ?_ | refine wp_exit ?_ | refine wp_ret ?_ | refine wp_seq ?_ | refine wp_cond ?_ | refine wp_block ?_ | refine wp_dreg ?_ | refine wp_reg ?_ | simp (maxSteps := 2000000) (disch := first | omega | (simp only [next_new, next_put]; omega) | fail) only [wr_mv, wr_len, wr_fa, wr_nil, wr_ext, wr_not, wr_ixs, wr_sl, wr_ld1, wr_ldN, wr_st, wr_alloc, wr_box, wr_mkmap, wr_int, wr_pick, wr_build, wr_buildSl, wr_look, wr_mk, wr_app, wr_sbin, wr_fog, wr_end, wd_mv, wd_fa, wd_nil, wd_ext, wd_ixs, wd_alloc, wd_build, wd_buildSl, wd_ld1, wd_ldN, wd_st, wd_mset, wd_app, wd_int, wd_end, sO_ok, sD_ok, sR_ok, sL_ok, sB_t, sB_f, sG_t, sG_f, kseq_n, kseq_r, kseq_e, kblk_n, kblk_r, kblk_e, kfn_n, kfn_r, sC_ok, kc_eq, kd_eq, oFa_ptr, oFa_ep, oNil_ptr, oNil_ep, oLen_sl, oLen_row, oLen_nil, oExt_0, oExt_1, oExt_2, okq_some, oNot_bool, oSl_nil, rc_ptr, rc_ep, oRd, oEp, oLd1_some, oLdN_some, oSt, oInt_int, oPick_b, oBuild_some, oBuildSl_some, ffill_nil, oFill_some, ffill, patch, oFind_some, oFind_none, oOne_some, oTwo_some, cfin_one, cfin_two, wanted_b, wanted_u, evs_nil, evs_cons, fargs_nil, fargs_cons, cells_int, cells_str, cells_agg, cells_sl, cells_row, cells_map, cells_ptr, cells_bool, cells_nil, one_nil, one_cons, one_int, one_str, one_sl, one_row, one_map, one_ptr, one_bool, one_vnil, deql, dneq, dlss, dgtr, dgeq, iEq_n, iLt_n, iLe, beq_dec, blt_dec, ble_dec, mem_nil, readOk_nil, readOk_rd, loudOk_nil, loudOk_loud, loudOk_none, List.drop_succ_cons, List.drop_zero, List.drop_nil, List.take_succ_cons, List.take_zero, List.take_nil, List.length_cons, List.length_nil, List.cons_append, List.nil_append, Nat.reduceAdd, Nat.reduceEqDiff, Nat.reduceLeDiff, decide_true, decide_false, Bool.and_self, Bool.and_true, Bool.true_and, Bool.not_true, Bool.not_false, cond_true, cond_false, true_and, and_true, Gt_St, p0_eq, kD_eq, reduceIte, Nat.add_zero, Nat.zero_add, next_new, next_put, hget_new_le, hget_new_ne, hget_put_same, hget_put_ne, Y1, Y2, Y3, vd, e2'])
  refine wr_call ?_
  simp (maxSteps := 2000000) (disch := first | omega | (simp only [next_new, next_put]; omega) | fail) only [wr_mv, wr_len, wr_fa, wr_nil, wr_ext, wr_not, wr_ixs, wr_sl, wr_ld1, wr_ldN, wr_st, wr_alloc, wr_box, wr_mkmap, wr_int, wr_pick, wr_build, wr_buildSl, wr_look, wr_mk, wr_app, wr_sbin, wr_fog, wr_end, wd_mv, wd_fa, wd_nil, wd_ext, wd_ixs, wd_alloc, wd_build, wd_buildSl, wd_ld1, wd_ldN, wd_st, wd_mset, wd_app, wd_int, wd_end, sO_ok, sD_ok, sR_ok, sL_ok, sB_t, sB_f, sG_t, sG_f, kseq_n, kseq_r, kseq_e, kblk_n, kblk_r, kblk_e, kfn_n, kfn_r, sC_ok, kc_eq, kd_eq, oFa_ptr, oFa_ep, oNil_ptr, oNil_ep, oLen_sl, oLen_row, oLen_nil, oExt_0, oExt_1, oExt_2, okq_some, oNot_bool, oSl_nil, rc_ptr, rc_ep, oRd, oEp, oLd1_some, oLdN_some, oSt, oInt_int, oPick_b, oBuild_some, oBuildSl_some, ffill_nil, oFill_some, ffill, patch, oFind_some, oFind_none, oOne_some, oTwo_some, cfin_one, cfin_two, wanted_b, wanted_u, evs_nil, evs_cons, fargs_nil, fargs_cons, cells_int, cells_str, cells_agg, cells_sl, cells_row, cells_map, cells_ptr, cells_bool, cells_nil, one_nil, one_cons, one_int, one_str, one_sl, one_row, one_map, one_ptr, one_bool, one_vnil, deql, dneq, dlss, dgtr, dgeq, iEq_n, iLt_n, iLe, beq_dec, blt_dec, ble_dec, mem_nil, readOk_nil, readOk_rd, loudOk_nil, loudOk_loud, loudOk_none, List.drop_succ_cons, List.drop_zero, List.drop_nil, List.take_succ_cons, List.take_zero, List.take_nil, List.length_cons, List.length_nil, List.cons_append, List.nil_append, Nat.reduceAdd, Nat.reduceEqDiff, Nat.reduceLeDiff, decide_true, decide_false, Bool.and_self, Bool.and_true, Bool.true_and, Bool.not_true, Bool.not_false, cond_true, cond_false, true_and, and_true, Gt_St, p0_eq, kD_eq, reduceIte, Nat.add_zero, Nat.zero_add, next_new, next_put, hget_new_le, hget_new_ne, hget_put_same, hget_put_ne]
  refine (wop_ev x.op _ _ uc ud _).mono ?_
  rintro d1 h3 ⟨rfl, rfl⟩
  repeat' (first | refine wp_skip ?_ | refine wp_exit ?_ | refine wp_ret ?_ | refine wp_seq ?_ | refine wp_cond ?_ | refine wp_block ?_ | refine wp_dreg ?_ | refine wp_reg ?_ | simp (maxSteps := 2000000) (disch := first | omega | (simp only [next_new, next_put]; omega) | fail) only [wr_mv, wr_len, wr_fa, wr_nil, wr_ext, wr_not, wr_ixs, wr_sl, wr_ld1, wr_ldN, wr_st, wr_alloc, wr_box, wr_mkmap, wr_int, wr_pick, wr_build, wr_buildSl, wr_look, wr_mk, wr_app, wr_sbin, wr_fog, wr_end, wd_mv, wd_fa, wd_nil, wd_ext, wd_ixs, wd_alloc, wd_build, wd_buildSl, wd_ld1, wd_ldN, wd_st, wd_mset, wd_app, wd_int, wd_end, sO_ok, sD_ok, sR_ok, sL_ok, sB_t, sB_f, sG_t, sG_f, kseq_n, kseq_r, kseq_e, kblk_n, kblk_r, kblk_e, kfn_n, kfn_r, sC_ok, kc_eq, kd_eq, oFa_ptr, oFa_ep, oNil_ptr, oNil_ep, oLen_sl, oLen_row, oLen_nil, oExt_0, oExt_1, oExt_2, okq_some, oNot_bool, oSl_nil, rc_ptr, rc_ep, oRd, oEp, oLd1_some, oLdN_some, oSt, oInt_int, oPick_b, oBuild_some, oBuildSl_some, ffill_nil, oFill_some, ffill, patch, oFind_some, oFind_none, oOne_some, oTwo_some, cfin_one, cfin_two, wanted_b, wanted_u, evs_nil, evs_cons, fargs_nil, fargs_cons, cells_int, cells_str, cells_agg, cells_sl, cells_row, cells_map, cells_ptr, cells_bool, cells_nil, one_nil, one_cons, one_int, one_str, one_sl, one_row, one_map, one_ptr, one_bool, one_vnil, deql, dneq, dlss, dgtr, dgeq, iEq_n, iLt_n, iLe, beq_dec, blt_dec, ble_dec, mem_nil, readOk_nil, readOk_rd, loudOk_nil, loudOk_loud, loudOk_none, List.drop_succ_cons, List.drop_zero, List.drop_nil, List.take_succ_cons, List.take_zero, List.take_nil, List.length_cons, List.length_nil, List.cons_append, List.nil_append, Nat.reduceAdd, Nat.reduceEqDiff, Nat.reduceLeDiff, decide_true, decide_false, Bool.and_self, Bool.and_true, Bool.true_and, Bool.not_true, Bool.not_false, cond_true, cond_false, true_and, and_true, Gt_St, p0_eq, kD_eq, reduceIte, Nat.add_zero, Nat.zero_add, next_new, next_put, hget_new_le, hget_new_ne, hget_put_same, hget_put_ne, Y1, Y2, Y3, vd])
  rw [hval]
  exact ⟨rfl, ((N2.new (by omega) _).put (by omega) (by omega) _).put (by omega) (by omega) _⟩
end
end Go.Abs.Sy
