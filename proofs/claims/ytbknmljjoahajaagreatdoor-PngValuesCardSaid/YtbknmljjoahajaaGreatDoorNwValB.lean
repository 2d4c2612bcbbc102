/- Rows of values that grow; the header's value, by rules. -/
import Derived.Test.YtbknmljjoahajaaGreatDoorNwVal
set_option linter.unusedVariables false
set_option linter.unusedSimpArgs false
namespace Go.Abs
namespace Run
variable {E : Env} {T : Nat → FFn}
attribute [local go_sem] vr_mv vr_len vr_fa vr_nil vr_ext vr_not vr_ixs vr_sl vr_ld1 vr_ldN vr_st vr_alloc vr_box vr_mkmap vr_int vr_pick vr_build vr_buildSl vr_look vr_mk vr_app vr_sbin vr_fog vr_end vr_b2s vr_lens vr_slstr vr_cint vd_mv vd_fa vd_nil vd_ext vd_ixs vd_alloc vd_build vd_buildSl vd_ld1 vd_ldN vd_st vd_mset vd_app vd_int vd_end vd_cint vO_ok vD_ok vRd_ok vL_ok vB_t vB_f vG_t vG_f lseq_n lseq_r lseq_e kblk_n kblk_r kblk_e lfn_n lfn_r lloop_n lloop_e lloop_r sC_ok oFa_ptr oFa_ep oNil_ptr oNil_ep oLen_sl oLen_row oLen_nil oExt_0 oExt_1 oExt_2 okq_some oNot_bool oSl_nil rc_ptr rc_ep oRd oEp oLd1_some oLdN_some oSt oInt_int oPick_b oBuild_some oBuildSl_some ffill_nil oFill_some ffill patch oFind_some oFind_none oOne_some oTwo_some cfin_one cfin_two wanted_b wanted_u evs_nil evs_cons fargs_nil fargs_cons oLens_str oB2s_nil oApp_unf oApp_unil oSame_some readOk_loudS loudOk_rdS mem_cons loudT readT sames_one Option.map_some Option.map_none oCint_n cells_int cells_str cells_agg cells_sl cells_row cells_map cells_ptr cells_bool cells_nil one_nil one_cons one_int one_str one_sl one_row one_map one_ptr one_bool one_vnil deql dneq dlss dgtr dgeq iEq_n iLt_n iLe beq_dec blt_dec ble_dec mem_nil readOk_nil readOk_rd loudOk_nil loudOk_loud loudOk_none add_small List.drop_succ_cons List.drop_zero List.drop_nil List.take_succ_cons List.take_zero List.take_nil List.length_cons List.length_nil List.cons_append List.nil_append Nat.reduceAdd Nat.reduceEqDiff Nat.reduceLeDiff decide_true decide_false Bool.and_self Bool.and_true Bool.true_and Bool.not_true Bool.not_false cond_true cond_false true_and and_true Gt_St p0_eq kD_eq reduceIte Nat.add_zero Nat.zero_add Nat.reduceMul Nat.reduceSub Nat.reduceBEq List.map_cons List.map_nil next_new next_put hget_new_le hget_new_ne hget_put_same hget_put_ne
def v32 : FFn := ffn v_ss (fun t h => cfin ⟨[.cN 4 4], .skip⟩ (act t) h)
 (fseq (freg <| fo (falloc 42 [(.int .i64 (.ofNat 0)), (.int .u64 (.ofNat 0)), (.str []), (.v (.slice none 0 0))]) (St 4) <| fend)
 (fseq (freg <| fo (fmv (Gt 0)) (St 5) <| fo (fcalls 70 [(Gt 5)]) (St 6) <| fo (fmv (Gt 1)) (St 7) <| fo (fcalls 70 [(Gt 7)]) (St 8) <| fo (fcalls 70 [(kD (.int .u64 (.ofNat 8)))]) (St 9) <| fo (fcalls 70 [(kD (.int .u64 (.ofNat 2)))]) (St 10) <| fo (fcalls 70 [(kD (.int .u64 (.ofNat 0)))]) (St 11) <| fo (fcalls 70 [(kD (.int .u64 (.ofNat 0)))]) (St 12) <| fo (fcalls 70 [(kD (.int .u64 (.ofNat 0)))]) (St 13) <| fo (fbuildSl 42 7 [(.int .i64 (.ofNat 0)), (.int .u64 (.ofNat 0)), (.str []), (.v (.slice none 0 0)), (.int .i64 (.ofNat 0)), (.int .u64 (.ofNat 0)), (.str []), (.v (.slice none 0 0)), (.int .i64 (.ofNat 0)), (.int .u64 (.ofNat 0)), (.str []), (.v (.slice none 0 0)), (.int .i64 (.ofNat 0)), (.int .u64 (.ofNat 0)), (.str []), (.v (.slice none 0 0)), (.int .i64 (.ofNat 0)), (.int .u64 (.ofNat 0)), (.str []), (.v (.slice none 0 0)), (.int .i64 (.ofNat 0)), (.int .u64 (.ofNat 0)), (.str []), (.v (.slice none 0 0)), (.int .i64 (.ofNat 0)), (.int .u64 (.ofNat 0)), (.str []), (.v (.slice none 0 0))] [(0, 4, (Gt 6)), (4, 4, (Gt 8)), (8, 4, (Gt 9)), (12, 4, (Gt 10)), (16, 4, (Gt 11)), (20, 4, (Gt 12)), (24, 4, (Gt 13))]) (St 14) <| fo (fcalls 26 [(Gt 14)]) (St 15) <| fo (fcalls 69 [(kD (.int .u64 (.ofNat 1229472850))), (Gt 15)]) (St 16) <| fo (fst1 4 (Gt 4) (Gt 16)) p0 <| fend)
 fret))
def v33 : FFn := ffn v_ss (fun t h => cfin ⟨[.cN 4 4], .skip⟩ (act t) h)
 (fseq (freg <| fo (falloc 71 [(.int .i64 (.ofNat 0)), (.int .u64 (.ofNat 0)), (.str []), (.v (.slice none 0 0))]) (St 4) <| fend)
 (fseq (freg <| fo (fmv (Gt 0)) (St 10) <| fo (fmv (Gt 1)) (St 11) <| fo (fbuildSl 39 7 [(.int .u64 (.ofNat 0)), (.int .u64 (.ofNat 0)), (.int .u64 (.ofNat 0)), (.int .u64 (.ofNat 0)), (.int .u64 (.ofNat 0)), (.int .u64 (.ofNat 0)), (.int .u64 (.ofNat 0))] [(0, 1, (Gt 10)), (1, 1, (Gt 11)), (2, 1, (kD (.int .u64 (.ofNat 8)))), (3, 1, (kD (.int .u64 (.ofNat 2)))), (4, 1, (kD (.int .u64 (.ofNat 0)))), (5, 1, (kD (.int .u64 (.ofNat 0)))), (6, 1, (kD (.int .u64 (.ofNat 0))))]) (St 12) <| fo (fmv (Gt 12)) (St 5) <| fend)
 (fseq (freg <| fo (fmv (kD (.v (.slice none 0 0)))) (St 6) <| fend)
 (fseq (fseq (freg <| fo (fmv (kD (.int .i64 (.ofNat 0)))) (St 7) <| fend)
 (fblock 0 (floop (fseq (fseq (freg <| fo (fmv (Gt 7)) (St 13) <| fo (fmv (Gt 5)) (St 14) <| fo (u1 r_len (Gt 14)) (St 15) <| fo (qint dlss .lss 3 (.tmp 13) (.tmp 15) (Gt 13) (Gt 15)) (St 16) <| fend)
 (fcond (Gt 16) fskip (fexit 0)))
 (fseq (fblock 1 (fseq (freg <| fo (fmv (Gt 5)) (St 19) <| fo (fmv (Gt 7)) (St 20) <| fo (u2 (r_ixs 1) (Gt 19) (Gt 20)) (St 21) <| fo (fld1 (Gt 21)) (St 22) <| fo (fcalls 71 [(Gt 22)]) (St 23) <| fo (falloc 71 [(.int .i64 (.ofNat 0)), (.int .u64 (.ofNat 0)), (.str []), (.v (.slice none 0 0))]) (St 8) <| fo (fst1 4 (Gt 8) (Gt 23)) p0 <| fend)
 (freg <| fo (fmv (Gt 6)) (St 24) <| fo (fldN 4 (Gt 8)) (St 25) <| fo (fbuildSl 71 1 [(.int .i64 (.ofNat 0)), (.int .u64 (.ofNat 0)), (.str []), (.v (.slice none 0 0))] [(0, 4, (Gt 25))]) (St 26) <| fo (u2 (r_app 71 4 56) (Gt 24) (Gt 26)) (St 27) <| fo (fmv (Gt 27)) (St 6) <| fend)))
 (freg <| fo (fmv (Gt 7)) (St 17) <| fo (qint dadd .add 3 (.tmp 17) (.const (.int .i64 (.ofNat 1))) (Gt 17) (kD (.int .i64 (.ofNat 1)))) (St 18) <| fo (fmv (Gt 18)) (St 7) <| fend))))))
 (fseq (freg <| fo (fmv (Gt 6)) (St 28) <| fo (fcalls 72 [(Gt 28)]) (St 29) <| fo (falloc 71 [(.int .i64 (.ofNat 0)), (.int .u64 (.ofNat 0)), (.str []), (.v (.slice none 0 0))]) (St 9) <| fo (fst1 4 (Gt 9) (Gt 29)) p0 <| fend)
 (fseq (freg <| fo (fldN 4 (Gt 9)) (St 30) <| fo (fcalls 73 [(kD (.int .u64 (.ofNat 1229472850))), (Gt 30)]) (St 31) <| fo (fst1 4 (Gt 4) (Gt 31)) p0 <| fend)
 fret))))))
theorem grow_keep {n0 : Nat} {h h' : H} {e size i k : Nat} {cs : List D} {d : D} (g : Grow2 n0 h e size i k cs d) (hk : 0 < i → hget h'.mem k = hget h.mem k) (hn : h.next ≤ h'.next) : Grow2 n0 h' e size i k cs d := by
  rcases g with g | ⟨h0, h1, h2, h3, h4, h5⟩
  · exact .inl g
  · exact .inr ⟨h0, h1, (hk h0).trans h2, h3, h4, Nat.lt_of_lt_of_le h5 hn⟩
theorem app_one {n0 : Nat} {h : H} {e i k id : Nat} {cs ys : List D} {d : D} (g : Grow2 n0 h e 4 i k cs d) (hn : n0 ≤ h.next) (hi : i ≤ 1000000) (ho : allOne ys = true) (hy : ys.length = 4) :
    ∃ k' d' h', oApp e 4 56 d (.sl id 1 ys) h = .ok d' h' ∧ Grow2 n0 h' e 4 (i + 1) k' (cs ++ ys) d' ∧ (k' = h.next ∨ (0 < i ∧ k' = k)) ∧ h.next ≤ h'.next ∧ h'.next ≤ h.next + 1 ∧ ∀ l, l < h.next → (l ≠ k ∨ i = 0) → hget h'.mem l = hget h.mem l := by
  rcases g with ⟨rfl, rfl, rfl⟩ | ⟨h0, rfl, h2, h3, h4, h5⟩
  · refine ⟨h.next, .sl h.next 1 ys, fnew h (.tip 1 e), oApp_nil (by decide) ho (by omega) (by decide) (by decide) (by decide), .inr ⟨by decide, rfl, hget_new_le (by omega) (by omega), by simp; omega, hn, by simp [next_new]⟩, .inl rfl, by simp [next_new], by simp [next_new], fun l hl _ => hget_new_ne (by omega)⟩
  · refine ⟨k, .sl k (i + 1) (cs ++ ys), fput' h k (.tip (i + 1) e), oApp_sl h2 (by decide) ho (by omega) h3 (by decide) (by omega) (by omega), .inr ⟨by omega, rfl, hget_put_same, by simp; omega, h4, by rw [next_put]; exact h5⟩, .inr ⟨h0, rfl⟩, by simp [next_put], by simp [next_put], fun l hl hlk => ?_⟩
    rcases hlk with hlk | rfl
    · exact hget_put_ne hlk
    · omega
def numI (n : Nat) : List D := [.int .i64 (.ofNat 1), .int .u64 (.ofNat n), .str [], nilS]
def numsC : List Nat → List D
  | [] => []
  | n :: r => .int .i64 (.ofNat 1) :: .int .u64 (.ofNat n) :: .str [] :: nilS :: numsC r
theorem numsC_snoc (n : Nat) : ∀ l, numsC (l ++ [n]) = numsC l ++ numI n
  | [] => rfl
  | a :: r => by simp only [List.cons_append, numsC, numsC_snoc n r]
theorem sameV_nil : sameV (.slice none 0 0) (.slice none 0 0) = true := rfl
theorem numsC_same : ∀ l, sames (numsC l) (numsC l) = true
  | [] => rfl
  | a :: r => by simp only [numsC, sames, D.same, beqL_self, sameV_nil, numsC_same r, decide_true, Bool.and_self]
def headN (w hh : Nat) : List Nat := [w, hh, 8, 2, 0, 0, 0]
theorem same_nums (id n : Nat) (l : List Nat) : sames [.int .i64 (.ofNat 4), .int .u64 (.ofNat 0), .str [], .sl id n (numsC l)] [.int .i64 (.ofNat 4), .int .u64 (.ofNat 0), .str [], .sl id n (numsC l)] = true := by
  simp only [sames, D.same, beqL_self, numsC_same, Nat.beq_refl, decide_true, Bool.and_self]
set_option maxHeartbeats 4000000 in
theorem vc32 (h70 : T 70 = v70) (h26 : T 26 = v26) (h69 : T 69 = v69) (h32 : T 32 = v32) (w hh : Nat) (h : H) : VC E T 32 [.int .u64 (.ofNat w), .int .u64 (.ofNat hh)] h (fun x h' => (∃ id id2, x = .agg [.int .i64 (.ofNat 4), .int .u64 (.ofNat 0), .str [], .sl id 4 (chunkC 1229472850 (.int .i64 (.ofNat 4)) (.int .u64 (.ofNat 0)) (.str []) (.sl id2 7 (numsC (headN w hh))))]) ∧ Kp h h') noPan := by
  refine vc_fn h32 ?_
  unfold v_ss
  repeat' (with_reducible (first | refine vp_skip ?_ | refine vp_exit ?_ | refine vp_ret ?_ | refine vp_seq ?_ | refine vp_cond ?_ | refine vp_block ?_ | refine vp_dreg ?_ | refine vp_reg ?_ | simp (maxSteps := 2000000) (disch := first | omega | (simp only [next_new, next_put]; omega) | fail) only [go_sem]))
  refine vr_call ?_
  simp only [go_sem]
  refine (vc70 h70 w _).mono ?_ (fun _ _ h => h.elim)
  rintro d h1 ⟨rfl, kp1⟩
  repeat' (with_reducible (first | refine vp_skip ?_ | refine vp_exit ?_ | refine vp_ret ?_ | refine vp_seq ?_ | refine vp_cond ?_ | refine vp_block ?_ | refine vp_dreg ?_ | refine vp_reg ?_ | simp (maxSteps := 2000000) (disch := first | omega | (simp only [next_new, next_put]; omega) | fail) only [go_sem]))
  refine vr_call ?_
  simp only [go_sem]
  refine (vc70 h70 hh _).mono ?_ (fun _ _ h => h.elim)
  rintro d h2 ⟨rfl, kp2⟩
  repeat' (with_reducible (first | refine vp_skip ?_ | refine vp_exit ?_ | refine vp_ret ?_ | refine vp_seq ?_ | refine vp_cond ?_ | refine vp_block ?_ | refine vp_dreg ?_ | refine vp_reg ?_ | simp (maxSteps := 2000000) (disch := first | omega | (simp only [next_new, next_put]; omega) | fail) only [go_sem]))
  refine vr_call ?_
  simp only [go_sem]
  refine (vc70 h70 8 _).mono ?_ (fun _ _ h => h.elim)
  rintro d h3 ⟨rfl, kp3⟩
  repeat' (with_reducible (first | refine vp_skip ?_ | refine vp_exit ?_ | refine vp_ret ?_ | refine vp_seq ?_ | refine vp_cond ?_ | refine vp_block ?_ | refine vp_dreg ?_ | refine vp_reg ?_ | simp (maxSteps := 2000000) (disch := first | omega | (simp only [next_new, next_put]; omega) | fail) only [go_sem]))
  refine vr_call ?_
  simp only [go_sem]
  refine (vc70 h70 2 _).mono ?_ (fun _ _ h => h.elim)
  rintro d h4 ⟨rfl, kp4⟩
  repeat' (with_reducible (first | refine vp_skip ?_ | refine vp_exit ?_ | refine vp_ret ?_ | refine vp_seq ?_ | refine vp_cond ?_ | refine vp_block ?_ | refine vp_dreg ?_ | refine vp_reg ?_ | simp (maxSteps := 2000000) (disch := first | omega | (simp only [next_new, next_put]; omega) | fail) only [go_sem]))
  refine vr_call ?_
  simp only [go_sem]
  refine (vc70 h70 0 _).mono ?_ (fun _ _ h => h.elim)
  rintro d h5 ⟨rfl, kp5⟩
  repeat' (with_reducible (first | refine vp_skip ?_ | refine vp_exit ?_ | refine vp_ret ?_ | refine vp_seq ?_ | refine vp_cond ?_ | refine vp_block ?_ | refine vp_dreg ?_ | refine vp_reg ?_ | simp (maxSteps := 2000000) (disch := first | omega | (simp only [next_new, next_put]; omega) | fail) only [go_sem]))
  refine vr_call ?_
  simp only [go_sem]
  refine (vc70 h70 0 _).mono ?_ (fun _ _ h => h.elim)
  rintro d h6 ⟨rfl, kp6⟩
  repeat' (with_reducible (first | refine vp_skip ?_ | refine vp_exit ?_ | refine vp_ret ?_ | refine vp_seq ?_ | refine vp_cond ?_ | refine vp_block ?_ | refine vp_dreg ?_ | refine vp_reg ?_ | simp (maxSteps := 2000000) (disch := first | omega | (simp only [next_new, next_put]; omega) | fail) only [go_sem]))
  refine vr_call ?_
  simp only [go_sem]
  refine (vc70 h70 0 _).mono ?_ (fun _ _ h => h.elim)
  rintro d h7 ⟨rfl, kp7⟩
  repeat' (with_reducible (first | refine vp_skip ?_ | refine vp_exit ?_ | refine vp_ret ?_ | refine vp_seq ?_ | refine vp_cond ?_ | refine vp_block ?_ | refine vp_dreg ?_ | refine vp_reg ?_ | simp (maxSteps := 2000000) (disch := first | omega | (simp only [next_new, next_put]; omega) | fail) only [go_sem]))
  refine vr_call ?_
  simp only [go_sem]
  refine (vc26 h26 _ 7 _ _).mono ?_ (fun _ _ h => h.elim)
  rintro d h8 ⟨rfl, kp8⟩
  repeat' (with_reducible (first | refine vp_skip ?_ | refine vp_exit ?_ | refine vp_ret ?_ | refine vp_seq ?_ | refine vp_cond ?_ | refine vp_block ?_ | refine vp_dreg ?_ | refine vp_reg ?_ | simp (maxSteps := 2000000) (disch := first | omega | (simp only [next_new, next_put]; omega) | fail) only [go_sem]))
  refine vr_call ?_
  simp only [go_sem]
  refine (vc69 h70 h26 h69 1229472850 _ _ _ _ (same_nums _ 7 (headN w hh)) _).mono ?_ (fun _ _ h => h.elim)
  rintro d h9 ⟨⟨id, rfl⟩, kp9⟩
  have kpt := kp1.trans (kp2.trans (kp3.trans (kp4.trans (kp5.trans (kp6.trans (kp7.trans (((Kp.new _).trans kp8).trans kp9)))))))
  have m5 : hget h9.mem h.next = some (.cells 42 zV) := (kpt.2 h.next (by simp only [next_new]; omega)).trans (by simp (maxSteps := 2000000) (disch := first | omega | (simp only [next_new, next_put]; omega) | fail) only [go_sem, zV])
  repeat' (with_reducible (first | refine vp_skip ?_ | refine vp_exit ?_ | refine vp_ret ?_ | refine vp_seq ?_ | refine vp_cond ?_ | refine vp_block ?_ | refine vp_dreg ?_ | refine vp_reg ?_ | simp (maxSteps := 2000000) (disch := first | omega | (simp only [next_new, next_put]; omega) | fail) only [go_sem, m5, zV]))
  exact ⟨⟨_, _, rfl⟩, ((Kp.new _).trans kpt).put (Nat.le_refl _) _⟩
theorem vO_app {n0 : Nat} {h : H} {e i k id : Nat} {cs ys : List D} {d : D} {p : D → Tr D → Tr D} {kk : FR} {tt : Tr D} {Q : Aft} {R : Pan} (g : Grow2 n0 h e 4 i k cs d) (hn : n0 ≤ h.next) (hi : i ≤ 1000000) (ho : allOne ys = true) (hy : ys.length = 4)
    (hk : ∀ k' d' h', Grow2 n0 h' e 4 (i + 1) k' (cs ++ ys) d' → (k' = h.next ∨ (0 < i ∧ k' = k)) → h.next ≤ h'.next → h'.next ≤ h.next + 1 → (∀ l, l < h.next → (l ≠ k ∨ i = 0) → hget h'.mem l = hget h.mem l) → VR E T kk (p d' tt) h' Q R) : vO E T (oApp e 4 56 d (.sl id 1 ys) h) p kk tt Q R := by
  obtain ⟨k', d', h', ea, g', h1, h2, h3, h4⟩ := app_one (id := id) g hn hi ho hy
  rw [ea]
  exact hk k' d' h' g' h1 h2 h3 h4
def u64D (n : Nat) : D := .int .u64 (.ofNat n)
def LH (h0 : H) (w hh id : Nat) (_ : Tr D) (_ : H) (m : Nat) (t : Tr D) (h : H) : Prop :=
  ∃ i k d, i ≤ 7 ∧ m = 7 - i ∧ Gt 7 t = .int .i64 (.ofNat i) ∧ Gt 5 t = .sl id 7 ((headN w hh).map u64D) ∧ Gt 4 t = .ptr h0.next 0 ∧ Gt 6 t = d ∧ Grow2 (h0.next + 1) h 71 4 i k (numsC ((headN w hh).take i)) d ∧ hget h.mem h0.next = some (.cells 71 zV) ∧ Kp h0 h ∧ h0.next + 1 ≤ h.next
theorem take_snoc {α : Type} {l : List α} {i : Nat} (h : i < l.length) : l.take (i + 1) = l.take i ++ [l[i]] := by
  rw [List.take_add_one, List.getElem?_eq_getElem h]; rfl
set_option maxHeartbeats 4000000 in
theorem vc33 (h71 : T 71 = v71) (h72 : T 72 = v72) (h73 : T 73 = v73) (h33 : T 33 = v33) (w hh : Nat) (h : H) : VC E T 33 [.int .u64 (.ofNat w), .int .u64 (.ofNat hh)] h (fun x h' => (∃ id id2, x = .agg [.int .i64 (.ofNat 4), .int .u64 (.ofNat 0), .str [], .sl id 4 (chunkC 1229472850 (.int .i64 (.ofNat 4)) (.int .u64 (.ofNat 0)) (.str []) (.sl id2 7 (numsC (headN w hh))))]) ∧ Kp h h') noPan := by
  refine vc_fn h33 ?_
  unfold v_ss
  repeat' (with_reducible (first | refine vp_skip ?_ | refine vp_exit ?_ | refine vp_ret ?_ | refine vp_seq ?_ | refine vp_cond ?_ | refine vp_block ?_ | refine vp_dreg ?_ | refine vp_reg ?_ | simp (maxSteps := 2000000) (disch := first | omega | (simp only [next_new, next_put]; omega) | fail) only [go_sem]))
  refine vp_loopC (LH h w hh (h.next + 1)) 7 ?_ ?_
  · refine ⟨0, 0, nilS, by decide, rfl, ?_, ?_, ?_, ?_, .inl ⟨rfl, rfl, rfl⟩, ?_, (Kp.new _).trans (Kp.new _), ?_⟩
    all_goals first | (simp (maxSteps := 2000000) (disch := first | omega | (simp only [next_new, next_put]; omega) | fail) only [go_sem, headN, u64D, zV]; done) | (simp only [next_new]; omega)
  rintro m t1 h1 ⟨i, k, d, hi, rfl, k7, k5, k4, k6, g, mz, kp, nx⟩
  have hlen : (headN w hh).length = 7 := rfl
  by_cases hlt : i < 7
  · have hd : decide (i < 7) = true := decide_eq_true hlt
    have hx : ∀ hc, oIxs 1 (.sl (h.next + 1) 7 ((headN w hh).map u64D)) (.int .i64 (.ofNat i)) hc = .ok (.ep (.int .u64 (.ofNat (headN w hh)[i]) :: ((headN w hh).map u64D).drop (i + 1))) hc := fun hc => oIxs_sl hlt (by
      rw [Nat.mul_one, List.drop_eq_getElem_cons (by rw [List.length_map]; exact hlt), List.getElem_map]; rfl)
    have hkl : 0 < i → k < h1.next ∧ h.next + 1 ≤ k := fun h0 => by
      rcases g with ⟨rfl, _⟩ | ⟨_, _, _, _, g4, g5⟩
      · omega
      · exact ⟨g5, g4⟩
    repeat' (with_reducible (first | refine vp_skip ?_ | refine vp_exit ?_ | refine vp_ret ?_ | refine vp_seq ?_ | refine vp_cond ?_ | refine vp_block ?_ | refine vp_dreg ?_ | refine vp_reg ?_ | simp (maxSteps := 2000000) (disch := first | omega | (simp only [next_new, next_put]; omega) | fail) only [go_sem, k7, k5, k4, k6, hd, hx]))
    refine vr_call ?_
    simp only [go_sem]
    refine (vc71 h71 _ _).mono ?_ (fun _ _ h => h.elim)
    rintro d1 h2 ⟨rfl, kp2⟩
    have nx2 := kp2.1
    repeat' (with_reducible (first | refine vp_skip ?_ | refine vp_exit ?_ | refine vp_ret ?_ | refine vp_seq ?_ | refine vp_cond ?_ | refine vp_block ?_ | refine vp_dreg ?_ | refine vp_reg ?_ | simp (maxSteps := 2000000) (disch := first | omega | (simp only [next_new, next_put]; omega) | fail) only [go_sem, k7, k5, k4, k6, hd, hx]))
    refine vO_app (n0 := h.next + 1) (i := i) (k := k) (cs := numsC ((headN w hh).take i)) (grow_keep g (fun h0 => ?_) ?_) ?_ (by omega) rfl rfl ?_
    · obtain ⟨hk1, hk2⟩ := hkl h0
      simp (maxSteps := 2000000) (disch := first | omega | (simp only [next_new, next_put]; omega) | fail) only [go_sem]
      exact kp2.2 k hk1
    · simp only [next_new, next_put]; omega
    · simp only [next_new, next_put]; omega
    intro k' d' h' g' hk' n1 n2 hkeep
    simp only [next_new, next_put] at n1 n2 hkeep
    have hk2 : ∀ l, l < h1.next → (l ≠ k ∨ i = 0) → hget h'.mem l = hget h1.mem l := fun l hl hlk => (hkeep l (by omega) hlk).trans (by
      simp (maxSteps := 2000000) (disch := first | omega | (simp only [next_new, next_put]; omega) | fail) only [go_sem]
      exact kp2.2 l hl)
    have hlk : ∀ l, l ≤ h.next → (l ≠ k ∨ i = 0) := fun l hl => by
      by_cases h0 : 0 < i
      · have := hkl h0; omega
      · omega
    repeat' (with_reducible (first | refine vp_skip ?_ | refine vp_exit ?_ | refine vp_ret ?_ | refine vp_seq ?_ | refine vp_cond ?_ | refine vp_block ?_ | refine vp_dreg ?_ | refine vp_reg ?_ | simp (maxSteps := 2000000) (disch := first | omega | (simp only [next_new, next_put]; omega) | fail) only [go_sem, k7, k5, k4, k6, hd, hx]))
    refine ⟨7 - (i + 1), by omega, i + 1, k', d', by omega, rfl, ?_, ?_, ?_, ?_, ?_, (hk2 _ (by omega) (hlk _ (Nat.le_refl _))).trans mz, ⟨by omega, fun l hl => (hk2 l (by omega) (hlk l (by omega))).trans (kp.2 l hl)⟩, by omega⟩
    rotate_right
    · rw [take_snoc (by rw [hlen]; exact hlt), numsC_snoc]
      exact g'
    all_goals simp (maxSteps := 2000000) (disch := first | omega | (simp only [next_new, next_put]; omega) | fail) only [go_sem, k7, k5, k4, k6]
  · obtain rfl : i = 7 := by omega
    have hd : decide (7 < 7) = false := by decide
    repeat' (with_reducible (first | refine vp_skip ?_ | refine vp_exit ?_ | refine vp_ret ?_ | refine vp_seq ?_ | refine vp_cond ?_ | refine vp_block ?_ | refine vp_dreg ?_ | refine vp_reg ?_ | simp (maxSteps := 2000000) (disch := first | omega | (simp only [next_new, next_put]; omega) | fail) only [go_sem, k7, k5, k4, k6, hd]))
    obtain ⟨_, rfl, g2, g3, g4, g5⟩ := g.resolve_left (fun h => by omega)
    refine vr_call ?_
    simp only [go_sem, k6]
    refine (vc72 h72 k 7 _ _).mono ?_ (fun _ _ h => h.elim)
    rintro d1 h2 ⟨rfl, kp2⟩
    have nx2 := kp2.1
    repeat' (with_reducible (first | refine vp_skip ?_ | refine vp_exit ?_ | refine vp_ret ?_ | refine vp_seq ?_ | refine vp_cond ?_ | refine vp_block ?_ | refine vp_dreg ?_ | refine vp_reg ?_ | simp (maxSteps := 2000000) (disch := first | omega | (simp only [next_new, next_put]; omega) | fail) only [go_sem, k7, k5, k4, k6, hd]))
    refine vr_call ?_
    simp only [go_sem]
    refine (vc73 h71 h72 h73 1229472850 _ _ _ _ _).mono ?_ (fun _ _ h => h.elim)
    rintro d1 h3 ⟨⟨id, rfl⟩, kp3⟩
    have nx3 := kp3.1
    simp only [next_new, next_put] at nx3
    have m5 : hget h3.mem h.next = some (.cells 71 zV) := (kp3.2 h.next (by simp only [next_new, next_put]; omega)).trans (by
      simp (maxSteps := 2000000) (disch := first | omega | (simp only [next_new, next_put]; omega) | fail) only [go_sem]
      exact (kp2.2 _ (by omega)).trans mz)
    repeat' (with_reducible (first | refine vp_skip ?_ | refine vp_exit ?_ | refine vp_ret ?_ | refine vp_seq ?_ | refine vp_cond ?_ | refine vp_block ?_ | refine vp_dreg ?_ | refine vp_reg ?_ | simp (maxSteps := 2000000) (disch := first | omega | (simp only [next_new, next_put]; omega) | fail) only [go_sem, k7, k5, k4, k6, m5, zV]))
    exact ⟨⟨_, _, rfl⟩, ((kp.trans kp2).trans (((Kp.new _).put (Nat.le_refl _) _).trans kp3)).put (Nat.le_refl _) _⟩
end Run
end Go.Abs
namespace Go.Abs
namespace Run
variable {E : Env} {T : Nat → FFn}
attribute [local go_sem] vr_mv vr_len vr_fa vr_nil vr_ext vr_not vr_ixs vr_sl vr_ld1 vr_ldN vr_st vr_alloc vr_box vr_mkmap vr_int vr_pick vr_build vr_buildSl vr_look vr_mk vr_app vr_sbin vr_fog vr_end vr_b2s vr_lens vr_slstr vr_cint vd_mv vd_fa vd_nil vd_ext vd_ixs vd_alloc vd_build vd_buildSl vd_ld1 vd_ldN vd_st vd_mset vd_app vd_int vd_end vd_cint vO_ok vD_ok vRd_ok vL_ok vB_t vB_f vG_t vG_f lseq_n lseq_r lseq_e kblk_n kblk_r kblk_e lfn_n lfn_r lloop_n lloop_e lloop_r sC_ok oFa_ptr oFa_ep oNil_ptr oNil_ep oLen_sl oLen_row oLen_nil oExt_0 oExt_1 oExt_2 okq_some oNot_bool oSl_nil rc_ptr rc_ep oRd oEp oLd1_some oLdN_some oSt oInt_int oPick_b oBuild_some oBuildSl_some ffill_nil oFill_some ffill patch oFind_some oFind_none oOne_some oTwo_some cfin_one cfin_two wanted_b wanted_u evs_nil evs_cons fargs_nil fargs_cons oLens_str oB2s_nil oSame_some readOk_loudS loudOk_rdS mem_cons loudT readT sames_one Option.map_some Option.map_none oCint_n cells_int cells_str cells_agg cells_sl cells_row cells_map cells_ptr cells_bool cells_nil one_nil one_cons one_int one_str one_sl one_row one_map one_ptr one_bool one_vnil deql dneq dlss dgtr dgeq iEq_n iLt_n iLe beq_dec blt_dec ble_dec mem_nil readOk_nil readOk_rd loudOk_nil loudOk_loud loudOk_none add_small List.drop_succ_cons List.drop_zero List.drop_nil List.take_succ_cons List.take_zero List.take_nil List.length_cons List.length_nil List.cons_append List.nil_append Nat.reduceAdd Nat.reduceEqDiff Nat.reduceLeDiff decide_true decide_false Bool.and_self Bool.and_true Bool.true_and Bool.not_true Bool.not_false cond_true cond_false true_and and_true Gt_St p0_eq kD_eq reduceIte Nat.add_zero Nat.zero_add Nat.reduceMul Nat.reduceSub Nat.reduceBEq List.map_cons List.map_nil next_new next_put hget_new_le hget_new_ne hget_put_same hget_put_ne
def v34 : FFn := ffn v_ss (fun t h => cfin ⟨[.cN 6 4], .skip⟩ (act t) h)
 (fseq (freg <| fo (falloc 42 [(.int .i64 (.ofNat 0)), (.int .u64 (.ofNat 0)), (.str []), (.v (.slice none 0 0))]) (St 6) <| fend)
 (fseq (freg <| fo (fmv (Gt 0)) (St 8) <| fo (fmv (Gt 1)) (St 9) <| fo (fcalls 32 [(Gt 8), (Gt 9)]) (St 10) <| fo (fbuildSl 42 1 [(.int .i64 (.ofNat 0)), (.int .u64 (.ofNat 0)), (.str []), (.v (.slice none 0 0))] [(0, 4, (Gt 10))]) (St 11) <| fo (fmv (Gt 2)) (St 12) <| fo (u2 (r_app 42 4 56) (Gt 11) (Gt 12)) (St 13) <| fo (fmv (Gt 13)) (St 7) <| fend)
 (fseq (freg <| fo (fcalls 70 [(kD (.int .u64 (.ofNat 9894494448401390090)))]) (St 14) <| fo (fmv (Gt 7)) (St 15) <| fo (fbuild [(.int .i64 (.ofNat 0)), (.int .u64 (.ofNat 0)), (.str []), (.v (.slice none 0 0))] []) (St 16) <| fo (fcalls 69 [(kD (.int .u64 (.ofNat 1229278788))), (Gt 16)]) (St 17) <| fo (fbuildSl 42 1 [(.int .i64 (.ofNat 0)), (.int .u64 (.ofNat 0)), (.str []), (.v (.slice none 0 0))] [(0, 4, (Gt 17))]) (St 18) <| fo (u2 (r_app 42 4 56) (Gt 15) (Gt 18)) (St 19) <| fo (fcalls 74 [(Gt 19)]) (St 20) <| fo (fbuildSl 42 2 [(.int .i64 (.ofNat 0)), (.int .u64 (.ofNat 0)), (.str []), (.v (.slice none 0 0)), (.int .i64 (.ofNat 0)), (.int .u64 (.ofNat 0)), (.str []), (.v (.slice none 0 0))] [(0, 4, (Gt 14)), (4, 4, (Gt 20))]) (St 21) <| fo (fcalls 26 [(Gt 21)]) (St 22) <| fo (fst1 4 (Gt 6) (Gt 22)) p0 <| fend)
 fret)))
def v35 : FFn := ffn v_ss (fun t h => cfin ⟨[.cN 6 4], .skip⟩ (act t) h)
 (fseq (freg <| fo (falloc 71 [(.int .i64 (.ofNat 0)), (.int .u64 (.ofNat 0)), (.str []), (.v (.slice none 0 0))]) (St 6) <| fend)
 (fseq (freg <| fo (fmv (Gt 0)) (St 13) <| fo (fmv (Gt 1)) (St 14) <| fo (fcalls 33 [(Gt 13), (Gt 14)]) (St 15) <| fo (falloc 71 [(.int .i64 (.ofNat 0)), (.int .u64 (.ofNat 0)), (.str []), (.v (.slice none 0 0))]) (St 7) <| fo (fst1 4 (Gt 7) (Gt 15)) p0 <| fend)
 (fseq (freg <| fo (fldN 4 (Gt 7)) (St 16) <| fo (fbuildSl 71 1 [(.int .i64 (.ofNat 0)), (.int .u64 (.ofNat 0)), (.str []), (.v (.slice none 0 0))] [(0, 4, (Gt 16))]) (St 17) <| fo (fmv (Gt 17)) (St 8) <| fend)
 (fseq (fseq (freg <| fo (fmv (kD (.int .i64 (.ofNat 0)))) (St 9) <| fend)
 (fblock 0 (floop (fseq (fseq (freg <| fo (fmv (Gt 9)) (St 18) <| fo (fmv (Gt 2)) (St 19) <| fo (u1 r_len (Gt 19)) (St 20) <| fo (qint dlss .lss 3 (.tmp 18) (.tmp 20) (Gt 18) (Gt 20)) (St 21) <| fend)
 (fcond (Gt 21) fskip (fexit 0)))
 (fseq (fblock 1 (freg <| fo (fmv (Gt 8)) (St 24) <| fo (fmv (Gt 2)) (St 25) <| fo (fmv (Gt 9)) (St 26) <| fo (u2 (r_ixs 4) (Gt 25) (Gt 26)) (St 27) <| fo (fldN 4 (Gt 27)) (St 28) <| fo (fbuildSl 71 1 [(.int .i64 (.ofNat 0)), (.int .u64 (.ofNat 0)), (.str []), (.v (.slice none 0 0))] [(0, 4, (Gt 28))]) (St 29) <| fo (u2 (r_app 71 4 56) (Gt 24) (Gt 29)) (St 30) <| fo (fmv (Gt 30)) (St 8) <| fend))
 (freg <| fo (fmv (Gt 9)) (St 22) <| fo (qint dadd .add 3 (.tmp 22) (.const (.int .i64 (.ofNat 1))) (Gt 22) (kD (.int .i64 (.ofNat 1)))) (St 23) <| fo (fmv (Gt 23)) (St 9) <| fend))))))
 (fseq (freg <| fo (fbuild [(.int .i64 (.ofNat 0)), (.int .u64 (.ofNat 0)), (.str []), (.v (.slice none 0 0))] []) (St 31) <| fo (fcalls 73 [(kD (.int .u64 (.ofNat 1229278788))), (Gt 31)]) (St 32) <| fo (falloc 71 [(.int .i64 (.ofNat 0)), (.int .u64 (.ofNat 0)), (.str []), (.v (.slice none 0 0))]) (St 10) <| fo (fst1 4 (Gt 10) (Gt 32)) p0 <| fend)
 (fseq (freg <| fo (fmv (Gt 8)) (St 33) <| fo (fldN 4 (Gt 10)) (St 34) <| fo (fbuildSl 71 1 [(.int .i64 (.ofNat 0)), (.int .u64 (.ofNat 0)), (.str []), (.v (.slice none 0 0))] [(0, 4, (Gt 34))]) (St 35) <| fo (u2 (r_app 71 4 56) (Gt 33) (Gt 35)) (St 36) <| fo (fmv (Gt 36)) (St 8) <| fend)
 (fseq (freg <| fo (fcalls 71 [(kD (.int .u64 (.ofNat 9894494448401390090)))]) (St 37) <| fo (falloc 71 [(.int .i64 (.ofNat 0)), (.int .u64 (.ofNat 0)), (.str []), (.v (.slice none 0 0))]) (St 11) <| fo (fst1 4 (Gt 11) (Gt 37)) p0 <| fend)
 (fseq (freg <| fo (fmv (Gt 8)) (St 38) <| fo (fcalls 75 [(Gt 38)]) (St 39) <| fo (falloc 71 [(.int .i64 (.ofNat 0)), (.int .u64 (.ofNat 0)), (.str []), (.v (.slice none 0 0))]) (St 12) <| fo (fst1 4 (Gt 12) (Gt 39)) p0 <| fend)
 (fseq (freg <| fo (fldN 4 (Gt 11)) (St 40) <| fo (fldN 4 (Gt 12)) (St 41) <| fo (fbuildSl 71 2 [(.int .i64 (.ofNat 0)), (.int .u64 (.ofNat 0)), (.str []), (.v (.slice none 0 0)), (.int .i64 (.ofNat 0)), (.int .u64 (.ofNat 0)), (.str []), (.v (.slice none 0 0))] [(0, 4, (Gt 40)), (4, 4, (Gt 41))]) (St 42) <| fo (fcalls 72 [(Gt 42)]) (St 43) <| fo (fst1 4 (Gt 6) (Gt 43)) p0 <| fend)
 fret)))))))))
def mkZ : V := .mk 0 0 [] []
def mkI (n : Nat) : V := .mk 1 n [] []
def mkB (b : List Nat) : V := .mk 2 0 b []
def mkL (l : List V) : V := .mk 3 0 [] l
def mkR (l : List V) : V := .mk 4 0 [] l
def vChunk (n : Nat) (v : V) : V := mkR [mkZ, mkI n, v, mkZ]
def Reps : List V → List (List D) → Prop
  | [], [] => True
  | v :: vs, c :: cs => Rep v c ∧ Reps vs cs
  | _, _ => False
theorem Reps.len : ∀ {vs : List V} {cs : List (List D)}, Reps vs cs → cs.length = vs.length
  | [], [], _ => rfl
  | v :: vs, c :: cs, h => by rw [List.length_cons, List.length_cons, Reps.len h.2]
theorem Reps.at : ∀ {vs : List V} {cs : List (List D)}, Reps vs cs → ∀ (i : Nat) (v : V) (c : List D), vs[i]? = some v → cs[i]? = some c → Rep v c
  | [], [], _, i, v, c, h, _ => by simp at h
  | v :: vs, c :: cs, h, 0, v', c', h1, h2 => by
    simp only [List.getElem?_cons_zero, Option.some.injEq] at h1 h2
    subst h1; subst h2
    exact h.1
  | v :: vs, c :: cs, h, i + 1, v', c', h1, h2 => Reps.at h.2 i v' c' h1 h2
theorem Reps.app : ∀ {vs vs' : List V} {cs cs' : List (List D)}, Reps vs cs → Reps vs' cs' → Reps (vs ++ vs') (cs ++ cs')
  | [], _, [], _, _, h => h
  | v :: vs, _, c :: cs, _, h, h' => ⟨h.1, Reps.app h.2 h'⟩
theorem Rep.len4 {v : V} {c : List D} (h : Rep v c) : c.length = 4 := by cases h; rfl
theorem Reps.four : ∀ {vs : List V} {cs : List (List D)}, Reps vs cs → ∀ c ∈ cs, c.length = 4
  | [], [], _, c, hc => by cases hc
  | v :: vs, c :: cs, h, c', hc => by
    rcases List.mem_cons.1 hc with rfl | hc
    · exact h.1.len4
    · exact Reps.four h.2 c' hc
theorem allOne_app : ∀ {xs ys : List D}, allOne xs = true → allOne ys = true → allOne (xs ++ ys) = true
  | [], ys, _, h => h
  | x :: xs, ys, h1, h2 => by
    simp only [allOne, Bool.and_eq_true] at h1
    simp only [List.cons_append, allOne, h1.1, Bool.true_and]
    exact allOne_app h1.2 h2
theorem Rep.ones {v : V} {c : List D} (h : Rep v c) : allOne c = true := by
  cases h with
  | mk hl hn hr =>
    rcases hl.2 with ⟨_, rfl⟩ | ⟨id, rfl⟩ <;> rfl
theorem Reps.ones : ∀ {vs : List V} {cs : List (List D)}, Reps vs cs → allOne cs.flatten = true
  | [], [], _ => rfl
  | v :: vs, c :: cs, h => by rw [List.flatten_cons]; exact allOne_app h.1.ones (Reps.ones h.2)
theorem Reps.lrep {vs : List V} {cs : List (List D)} (h : Reps vs cs) (hb : vs.length ≤ 1000000) (id : Nat) : LRep (.sl id cs.length cs.flatten) cs := ⟨⟨by rw [h.len]; exact hb, h.four⟩, .inr ⟨id, rfl⟩⟩
theorem rep_node (k : Nat) {vs : List V} {cs : List (List D)} (h : Reps vs cs) (hb : vs.length ≤ 1000000) (id n : Nat) (fl : List D) (hn : n = cs.length) (hf : fl = cs.flatten) : Rep (.mk k 0 [] vs) [.int .i64 (.ofNat k), .int .u64 (.ofNat 0), .str [], .sl id n fl] := by
  subst hn; subst hf
  exact .mk (h.lrep hb id) h.len h.at
theorem lrep_nil : LRep nilS [] := ⟨⟨Nat.zero_le _, fun c hc => by cases hc⟩, .inl ⟨rfl, rfl⟩⟩
theorem rep_flat (k n : Nat) (b : List Nat) : Rep (.mk k n b []) [.int .i64 (.ofNat k), .int .u64 (.ofNat n), .str b, nilS] := .mk lrep_nil rfl (fun i v c h => by simp at h)
theorem rep_zero : Rep mkZ zV := rep_flat 0 0 []
theorem rep_int (n : Nat) : Rep (mkI n) (numI n) := rep_flat 1 n []
theorem rep_bytes (b : List Nat) : Rep (mkB b) [.int .i64 (.ofNat 2), .int .u64 (.ofNat 0), .str b, nilS] := rep_flat 2 0 b
theorem rep_chunk {v : V} {a b c d : D} (h : Rep v [a, b, c, d]) (n id : Nat) : Rep (vChunk n v) [.int .i64 (.ofNat 4), .int .u64 (.ofNat 0), .str [], .sl id 4 (chunkC n a b c d)] :=
  rep_node 4 (vs := [mkZ, mkI n, v, mkZ]) (cs := [zV, numI n, [a, b, c, d], zV]) ⟨rep_zero, rep_int n, h, rep_zero, trivial⟩ (by simp) id 4 _ rfl rfl
theorem reps_nums : ∀ l : List Nat, Reps (l.map mkI) (l.map numI)
  | [] => trivial
  | n :: r => ⟨rep_int n, reps_nums r⟩
theorem numsC_flat : ∀ l : List Nat, numsC l = (l.map numI).flatten
  | [] => rfl
  | n :: r => by rw [List.map_cons, List.flatten_cons, ← numsC_flat r]; rfl
def vHdr (w hh : Nat) : V := vChunk 1229472850 (mkR ((headN w hh).map mkI))
theorem rep_hdr (w hh id id2 : Nat) : Rep (vHdr w hh) [.int .i64 (.ofNat 4), .int .u64 (.ofNat 0), .str [], .sl id 4 (chunkC 1229472850 (.int .i64 (.ofNat 4)) (.int .u64 (.ofNat 0)) (.str []) (.sl id2 7 (numsC (headN w hh))))] :=
  rep_chunk (rep_node 4 (reps_nums (headN w hh)) (by simp [headN]) id2 7 _ (by simp [headN]) (numsC_flat _)) _ id
def vEnd : V := vChunk 1229278788 mkZ
def vImg (w hh : Nat) (vs : List V) : V := mkR [mkI 9894494448401390090, mkL (vHdr w hh :: (vs ++ [vEnd]))]
def hdr4 (w hh i1 i2 : Nat) : List D := [.int .i64 (.ofNat 4), .int .u64 (.ofNat 0), .str [], .sl i1 4 (chunkC 1229472850 (.int .i64 (.ofNat 4)) (.int .u64 (.ofNat 0)) (.str []) (.sl i2 7 (numsC (headN w hh))))]
def end4 (i4 : Nat) : List D := [.int .i64 (.ofNat 4), .int .u64 (.ofNat 0), .str [], .sl i4 4 (chunkC 1229278788 (.int .i64 (.ofNat 0)) (.int .u64 (.ofNat 0)) (.str []) nilS)]
theorem rep_img (w hh : Nat) {vs : List V} {gs : List (List D)} (hv : Reps vs gs) (hvl : vs.length ≤ 1000) (i1 i2 i4 a b n : Nat) (fl : List D) (hn : n = gs.length + 2) (hf : fl = hdr4 w hh i1 i2 ++ (gs.flatten ++ end4 i4)) :
    Rep (vImg w hh vs) [.int .i64 (.ofNat 4), .int .u64 (.ofNat 0), .str [], .sl a 2 [.int .i64 (.ofNat 1), .int .u64 (.ofNat 9894494448401390090), .str [], nilS, .int .i64 (.ofNat 3), .int .u64 (.ofNat 0), .str [], .sl b n fl]] := by
  have hend : Rep vEnd (end4 i4) := rep_chunk rep_zero _ _
  have hall : Reps (vHdr w hh :: (vs ++ [vEnd])) (hdr4 w hh i1 i2 :: (gs ++ [end4 i4])) := ⟨rep_hdr w hh i1 i2, hv.app ⟨hend, trivial⟩⟩
  have hL : Rep (mkL (vHdr w hh :: (vs ++ [vEnd]))) [.int .i64 (.ofNat 3), .int .u64 (.ofNat 0), .str [], .sl b n fl] :=
    rep_node 3 hall (by simp; omega) b n fl (by simp; omega) (by rw [hf]; simp)
  exact rep_node 4 (vs := [mkI 9894494448401390090, mkL (vHdr w hh :: (vs ++ [vEnd]))]) (cs := [numI 9894494448401390090, [.int .i64 (.ofNat 3), .int .u64 (.ofNat 0), .str [], .sl b n fl]]) ⟨rep_int _, hL, trivial⟩ (by simp) a 2 _ rfl rfl
theorem oApp_nil2 {e size bytes k n : Nat} {cs : List D} {h : H} : oApp e size bytes (.sl k n cs) nilS h = .ok (.sl k n cs) h := rfl
theorem oApp_zero {e size bytes k n id : Nat} {cs : List D} {h : H} : oApp e size bytes (.sl k n cs) (.sl id 0 []) h = .ok (.sl k n cs) h := by
  simp [oApp, appendD, sliceCells]
theorem app_row {h : H} {e n k : Nat} {cs : List D} {A : D} {gs : List (List D)} (ht : hget h.mem k = some (.tip n e)) (hc : cs.length = n * 4) (hA : LRep A gs) (ho : allOne gs.flatten = true) (hb : n + gs.length ≤ 2000000) :
    ∃ h', oApp e 4 56 (.sl k n cs) A h = .ok (.sl k (n + gs.length) (cs ++ gs.flatten)) h' ∧ hget h'.mem k = some (.tip (n + gs.length) e) ∧ h'.next = h.next ∧ ∀ l, l ≠ k → hget h'.mem l = hget h.mem l := by
  rcases hA.2 with ⟨rfl, rfl⟩ | ⟨id, rfl⟩
  · exact ⟨h, by simpa using oApp_nil2, by simpa using ht, rfl, fun _ _ => rfl⟩
  · by_cases h0 : gs.length = 0
    · have : gs = [] := List.length_eq_zero_iff.1 h0
      subst this
      exact ⟨h, by simpa using oApp_zero, by simpa using ht, rfl, fun _ _ => rfl⟩
    · exact ⟨fput' h k (.tip (n + gs.length) e), oApp_sl ht (by omega) ho (flat_len hA.1.2) hc (by decide) (by omega) (by omega), hget_put_same, rfl, fun l hl => hget_put_ne hl⟩
theorem vO_appr {h : H} {e n k : Nat} {cs : List D} {A : D} {gs : List (List D)} {p : D → Tr D → Tr D} {kk : FR} {tt : Tr D} {Q : Aft} {R : Pan} (ht : hget h.mem k = some (.tip n e)) (hc : cs.length = n * 4) (hA : LRep A gs) (ho : allOne gs.flatten = true) (hb : n + gs.length ≤ 2000000)
    (hk : ∀ h', hget h'.mem k = some (.tip (n + gs.length) e) → h'.next = h.next → (∀ l, l ≠ k → hget h'.mem l = hget h.mem l) → VR E T kk (p (.sl k (n + gs.length) (cs ++ gs.flatten)) tt) h' Q R) : vO E T (oApp e 4 56 (.sl k n cs) A h) p kk tt Q R := by
  obtain ⟨h', ea, h1, h2, h3⟩ := app_row ht hc hA ho hb
  rw [ea]
  exact hk h' h1 h2 h3
theorem same_zero : sames [.int .i64 (.ofNat 0), .int .u64 (.ofNat 0), .str [], nilS] [.int .i64 (.ofNat 0), .int .u64 (.ofNat 0), .str [], nilS] = true := rfl
set_option maxHeartbeats 4000000 in
theorem vc34 (h70 : T 70 = v70) (h26 : T 26 = v26) (h69 : T 69 = v69) (h32 : T 32 = v32) (h74 : T 74 = v74) (h34 : T 34 = v34) (w hh : Nat) {vs : List V} {gs : List (List D)} (hv : Reps vs gs) (hvl : vs.length ≤ 1000) {A : D} (hA : LRep A gs) (h : H) :
    VC E T 34 [.int .u64 (.ofNat w), .int .u64 (.ofNat hh), A] h (fun x h' => (∃ a, x = .agg a ∧ Rep (vImg w hh vs) a) ∧ Kp h h') noPan := by
  have hgl := hv.len
  refine vc_fn h34 ?_
  unfold v_ss
  repeat' (with_reducible (first | refine vp_skip ?_ | refine vp_exit ?_ | refine vp_ret ?_ | refine vp_seq ?_ | refine vp_cond ?_ | refine vp_block ?_ | refine vp_dreg ?_ | refine vp_reg ?_ | simp (maxSteps := 2000000) (disch := first | omega | (simp only [next_new, next_put]; omega) | fail) only [go_sem]))
  refine vr_call ?_
  simp only [go_sem]
  refine (vc32 h70 h26 h69 h32 w hh _).mono ?_ (fun _ _ h => h.elim)
  rintro d1 h1 ⟨⟨i1, i2, rfl⟩, kp1⟩
  have nx1 := kp1.1
  simp only [next_new] at nx1
  repeat' (with_reducible (first | refine vp_skip ?_ | refine vp_exit ?_ | refine vp_ret ?_ | refine vp_seq ?_ | refine vp_cond ?_ | refine vp_block ?_ | refine vp_dreg ?_ | refine vp_reg ?_ | simp (maxSteps := 2000000) (disch := first | omega | (simp only [next_new, next_put]; omega) | fail) only [go_sem]))
  refine vO_appr (n := 1) (k := h1.next) (gs := gs) (by simp (maxSteps := 2000000) (disch := first | omega | (simp only [next_new, next_put]; omega) | fail) only [go_sem]) rfl hA hv.ones (by omega) ?_
  intro h2 t2 nx2 k2
  simp only [next_new] at nx2
  repeat' (with_reducible (first | refine vp_skip ?_ | refine vp_exit ?_ | refine vp_ret ?_ | refine vp_seq ?_ | refine vp_cond ?_ | refine vp_block ?_ | refine vp_dreg ?_ | refine vp_reg ?_ | simp (maxSteps := 2000000) (disch := first | omega | (simp only [next_new, next_put]; omega) | fail) only [go_sem]))
  refine vr_call ?_
  simp only [go_sem]
  refine (vc70 h70 9894494448401390090 _).mono ?_ (fun _ _ h => h.elim)
  rintro d3 h3 ⟨rfl, kp3⟩
  repeat' (with_reducible (first | refine vp_skip ?_ | refine vp_exit ?_ | refine vp_ret ?_ | refine vp_seq ?_ | refine vp_cond ?_ | refine vp_block ?_ | refine vp_dreg ?_ | refine vp_reg ?_ | simp (maxSteps := 2000000) (disch := first | omega | (simp only [next_new, next_put]; omega) | fail) only [go_sem]))
  refine vr_call ?_
  simp only [go_sem]
  refine (vc69 h70 h26 h69 1229278788 _ _ _ _ same_zero _).mono ?_ (fun _ _ h => h.elim)
  rintro d4 h4 ⟨⟨i4, rfl⟩, kp4⟩
  repeat' (with_reducible (first | refine vp_skip ?_ | refine vp_exit ?_ | refine vp_ret ?_ | refine vp_seq ?_ | refine vp_cond ?_ | refine vp_block ?_ | refine vp_dreg ?_ | refine vp_reg ?_ | simp (maxSteps := 2000000) (disch := first | omega | (simp only [next_new, next_put]; omega) | fail) only [go_sem]))
  have nx3 := kp3.1
  have nx4 := kp4.1
  have hrd := rep_hdr w hh i1 i2
  refine vO_appr (n := 1 + gs.length) (k := h1.next) (gs := [[.int .i64 (.ofNat 4), .int .u64 (.ofNat 0), .str [], .sl i4 4 (chunkC 1229278788 (.int .i64 (.ofNat 0)) (.int .u64 (.ofNat 0)) (.str []) nilS)]]) (by
    simp (maxSteps := 2000000) (disch := first | omega | (simp only [next_new, next_put]; omega) | fail) only [go_sem]
    exact (kp4.2 _ (by omega)).trans ((kp3.2 _ (by omega)).trans t2)) (by simp only [List.length_cons, List.length_append, List.length_nil, flat_len hv.four]; omega) ⟨⟨by simp, fun c hc => by simp at hc; subst hc; rfl⟩, .inr ⟨_, rfl⟩⟩ rfl (by simp; omega) ?_
  intro h5 t5 nx5 k5
  simp only [next_new] at nx5
  repeat' (with_reducible (first | refine vp_skip ?_ | refine vp_exit ?_ | refine vp_ret ?_ | refine vp_seq ?_ | refine vp_cond ?_ | refine vp_block ?_ | refine vp_dreg ?_ | refine vp_reg ?_ | simp (maxSteps := 2000000) (disch := first | omega | (simp only [next_new, next_put]; omega) | fail) only [go_sem]))
  refine vr_call ?_
  simp only [go_sem]
  refine (vc74 h74 _ _ _ _).mono ?_ (fun _ _ h => h.elim)
  rintro d6 h6 ⟨rfl, kp6⟩
  repeat' (with_reducible (first | refine vp_skip ?_ | refine vp_exit ?_ | refine vp_ret ?_ | refine vp_seq ?_ | refine vp_cond ?_ | refine vp_block ?_ | refine vp_dreg ?_ | refine vp_reg ?_ | simp (maxSteps := 2000000) (disch := first | omega | (simp only [next_new, next_put]; omega) | fail) only [go_sem]))
  refine vr_call ?_
  simp only [go_sem]
  refine (vc26 h26 _ 2 _ _).mono ?_ (fun _ _ h => h.elim)
  rintro d7 h7 ⟨rfl, kp7⟩
  have nx6 := kp6.1
  have nx7 := kp7.1
  simp only [next_new] at nx7
  have keep : ∀ l, l ≤ h.next → hget h7.mem l = hget (fnew h (.cells 42 zV)).mem l := fun l hl => by
    rw [kp7.2 l (by simp only [next_new]; omega), hget_new_ne (by omega), kp6.2 l (by omega), k5 l (by omega), hget_new_ne (by omega), kp4.2 l (by omega), kp3.2 l (by omega), k2 l (by omega), hget_new_ne (by omega)]
    exact kp1.2 l (by simp only [next_new]; omega)
  have m5 : hget h7.mem h.next = some (.cells 42 zV) := (keep _ (Nat.le_refl _)).trans (hget_new_eq rfl)
  repeat' (with_reducible (first | refine vp_skip ?_ | refine vp_exit ?_ | refine vp_ret ?_ | refine vp_seq ?_ | refine vp_cond ?_ | refine vp_block ?_ | refine vp_dreg ?_ | refine vp_reg ?_ | simp (maxSteps := 2000000) (disch := first | omega | (simp only [next_new, next_put]; omega) | fail) only [go_sem, m5, zV]))
  refine ⟨⟨_, rfl, rep_img w hh hv hvl i1 i2 i4 _ _ _ _ (by omega) (by simp [hdr4, end4])⟩, Kp.put ⟨by omega, fun l hl => (keep l (by omega)).trans (hget_new_ne (by omega))⟩ (Nat.le_refl _) _⟩
def LG (h0 : H) (A : D) (k n : Nat) (hd : List D) (gs : List (List D)) (_ : Tr D) (_ : H) (m : Nat) (t : Tr D) (h : H) : Prop :=
  ∃ i, i ≤ n ∧ m = n - i ∧ Gt 9 t = .int .i64 (.ofNat i) ∧ Gt 2 t = A ∧ Gt 6 t = .ptr h0.next 0 ∧ Gt 8 t = .sl k (1 + i) (hd ++ (gs.take i).flatten) ∧ hget h.mem k = some (.tip (1 + i) 71) ∧ hget h.mem h0.next = some (.cells 71 zV) ∧ Kp h0 h ∧ h0.next < k ∧ k < h.next
theorem flat_take {gs : List (List D)} {i : Nat} (h : i < gs.length) : (gs.take (i + 1)).flatten = (gs.take i).flatten ++ gs[i] := by
  rw [take_snoc h, List.flatten_append]; simp
set_option maxHeartbeats 4000000 in
theorem vc35 (h71 : T 71 = v71) (h72 : T 72 = v72) (h73 : T 73 = v73) (h33 : T 33 = v33) (h75 : T 75 = v75) (h35 : T 35 = v35) (w hh : Nat) {vs : List V} {gs : List (List D)} (hv : Reps vs gs) (hvl : vs.length ≤ 1000) {A : D} (hA : LRep A gs) (h : H) :
    VC E T 35 [.int .u64 (.ofNat w), .int .u64 (.ofNat hh), A] h (fun x h' => (∃ a, x = .agg a ∧ Rep (vImg w hh vs) a) ∧ Kp h h') noPan := by
  have hgl := hv.len
  have hAl := hA.len
  refine vc_fn h35 ?_
  unfold v_ss
  repeat' (with_reducible (first | refine vp_skip ?_ | refine vp_exit ?_ | refine vp_ret ?_ | refine vp_seq ?_ | refine vp_cond ?_ | refine vp_block ?_ | refine vp_dreg ?_ | refine vp_reg ?_ | simp (maxSteps := 2000000) (disch := first | omega | (simp only [next_new, next_put]; omega) | fail) only [go_sem, hAl]))
  refine vr_call ?_
  simp only [go_sem]
  refine (vc33 h71 h72 h73 h33 w hh _).mono ?_ (fun _ _ h => h.elim)
  rintro d1 h1 ⟨⟨i1, i2, rfl⟩, kp1⟩
  have nx1 := kp1.1
  simp only [next_new] at nx1
  have mz1 : hget h1.mem h.next = some (.cells 71 zV) := (kp1.2 h.next (by simp only [next_new]; omega)).trans (hget_new_eq rfl)
  repeat' (with_reducible (first | refine vp_skip ?_ | refine vp_exit ?_ | refine vp_ret ?_ | refine vp_seq ?_ | refine vp_cond ?_ | refine vp_block ?_ | refine vp_dreg ?_ | refine vp_reg ?_ | simp (maxSteps := 2000000) (disch := first | omega | (simp only [next_new, next_put]; omega) | fail) only [go_sem, hAl]))
  refine vp_loopC (LG h A (h1.next + 1) gs.length (hdr4 w hh i1 i2) gs) gs.length ?_ ?_
  · refine ⟨0, Nat.zero_le _, rfl, ?_, ?_, ?_, ?_, ?_, ?_, (((Kp.new _).trans kp1).trans ((Kp.new _).put (Nat.le_refl _) _)).trans (Kp.new _), by omega, ?_⟩
    all_goals first | (simp (maxSteps := 2000000) (disch := first | omega | (simp only [next_new, next_put]; omega) | fail) only [go_sem, mz1, List.flatten_nil, List.append_nil, hdr4]; done) | (simp only [next_new, next_put]; omega)
  rintro m t1 hx ⟨i, hi, rfl, k9, k2, k6, k8, mt, mz, kp, nk, nx⟩
  by_cases hlt : i < gs.length
  · have hd : decide (i < gs.length) = true := decide_eq_true hlt
    have hr := hv.at i (vs[i]'(by omega)) gs[i] (List.getElem?_eq_getElem (by omega)) (List.getElem?_eq_getElem hlt)
    obtain ⟨a1, a2, a3, a4, ea⟩ := hr.four
    obtain ⟨w1, x1⟩ := hA.at hlt ea
    have ho := hr.ones
    rw [ea] at ho
    repeat' (with_reducible (first | refine vp_skip ?_ | refine vp_exit ?_ | refine vp_ret ?_ | refine vp_seq ?_ | refine vp_cond ?_ | refine vp_block ?_ | refine vp_dreg ?_ | refine vp_reg ?_ | simp (maxSteps := 2000000) (disch := first | omega | (simp only [next_new, next_put]; omega) | fail) only [go_sem, k9, k2, k6, k8, hd, hAl, x1, oEp4]))
    have hcl : (hdr4 w hh i1 i2 ++ (gs.take i).flatten).length = (1 + i) * 4 := by
      rw [List.length_append, flat_len (fun c hc => hv.four c (List.mem_of_mem_take hc)), List.length_take, Nat.min_eq_left hi]
      show 4 + _ = _
      omega
    refine vO_appr (n := 1 + i) (k := h1.next + 1) (gs := [[a1, a2, a3, a4]]) ((hget_new_ne (by omega)).trans mt) hcl ⟨⟨by simp, fun c hc => by simp at hc; subst hc; rfl⟩, .inr ⟨_, rfl⟩⟩ (by simpa using ho) (by simp; omega) ?_
    intro h' t' n' k'
    simp only [next_new] at n'
    repeat' (with_reducible (first | refine vp_skip ?_ | refine vp_exit ?_ | refine vp_ret ?_ | refine vp_seq ?_ | refine vp_cond ?_ | refine vp_block ?_ | refine vp_dreg ?_ | refine vp_reg ?_ | simp (maxSteps := 2000000) (disch := first | omega | (simp only [next_new, next_put]; omega) | fail) only [go_sem, k9, k2, k6, k8, hd, hAl, x1, oEp4]))
    have e8 : hdr4 w hh i1 i2 ++ (gs.take (i + 1)).flatten = hdr4 w hh i1 i2 ++ (gs.take i).flatten ++ [[a1, a2, a3, a4]].flatten := by
      rw [flat_take hlt, ea]; simp
    have kk : ∀ l, l < hx.next → l ≠ h1.next + 1 → hget h'.mem l = hget hx.mem l := fun l hl hne => (k' l hne).trans (hget_new_ne (by omega))
    refine ⟨gs.length - (i + 1), by omega, i + 1, by omega, rfl, ?_, ?_, ?_, ?_, by simpa [Nat.add_assoc] using t', (kk _ (by omega) (by omega)).trans mz, ⟨by omega, fun l hl => (kk l (by have := kp.1; omega) (by omega)).trans (kp.2 l hl)⟩, nk, by omega⟩
    rotate_right
    · rw [e8]
      simp (maxSteps := 2000000) only [go_sem, Nat.add_assoc]
    all_goals simp (maxSteps := 2000000) (disch := first | omega | (simp only [next_new, next_put]; omega) | fail) only [go_sem, k9, k2, k6, k8]
  · obtain rfl : i = gs.length := by omega
    have hd : decide (gs.length < gs.length) = false := by simp
    repeat' (with_reducible (first | refine vp_skip ?_ | refine vp_exit ?_ | refine vp_ret ?_ | refine vp_seq ?_ | refine vp_cond ?_ | refine vp_block ?_ | refine vp_dreg ?_ | refine vp_reg ?_ | simp (maxSteps := 2000000) (disch := first | omega | (simp only [next_new, next_put]; omega) | fail) only [go_sem, k9, k2, k6, k8, hd, hAl]))
    have hcl : (hdr4 w hh i1 i2 ++ (gs.take gs.length).flatten).length = (1 + gs.length) * 4 := by
      rw [List.take_length, List.length_append, flat_len hv.four]
      show 4 + _ = _
      omega
    refine vr_call ?_
    simp only [go_sem]
    refine (vc73 h71 h72 h73 1229278788 _ _ _ _ _).mono ?_ (fun _ _ h => h.elim)
    rintro d3 h3 ⟨⟨i4, rfl⟩, kp3⟩
    have nx3 := kp3.1
    repeat' (with_reducible (first | refine vp_skip ?_ | refine vp_exit ?_ | refine vp_ret ?_ | refine vp_seq ?_ | refine vp_cond ?_ | refine vp_block ?_ | refine vp_dreg ?_ | refine vp_reg ?_ | simp (maxSteps := 2000000) (disch := first | omega | (simp only [next_new, next_put]; omega) | fail) only [go_sem, k9, k2, k6, k8]))
    refine vO_appr (n := 1 + gs.length) (k := h1.next + 1) (gs := [end4 i4]) (by
      rw [hget_new_ne (by simp only [next_new, next_put]; omega), hget_put_ne (by omega), hget_new_ne (by omega)]
      exact (kp3.2 _ (by omega)).trans mt) hcl ⟨⟨by simp, fun c hc => by simp at hc; subst hc; rfl⟩, .inr ⟨_, rfl⟩⟩ rfl (by simp; omega) ?_
    intro h4 t4 n4 k4
    simp only [next_new, next_put] at n4
    repeat' (with_reducible (first | refine vp_skip ?_ | refine vp_exit ?_ | refine vp_ret ?_ | refine vp_seq ?_ | refine vp_cond ?_ | refine vp_block ?_ | refine vp_dreg ?_ | refine vp_reg ?_ | simp (maxSteps := 2000000) (disch := first | omega | (simp only [next_new, next_put]; omega) | fail) only [go_sem, k9, k2, k6, k8]))
    refine vr_call ?_
    simp only [go_sem]
    refine (vc71 h71 9894494448401390090 _).mono ?_ (fun _ _ h => h.elim)
    rintro d5 h5 ⟨rfl, kp5⟩
    have nx5 := kp5.1
    repeat' (with_reducible (first | refine vp_skip ?_ | refine vp_exit ?_ | refine vp_ret ?_ | refine vp_seq ?_ | refine vp_cond ?_ | refine vp_block ?_ | refine vp_dreg ?_ | refine vp_reg ?_ | simp (maxSteps := 2000000) (disch := first | omega | (simp only [next_new, next_put]; omega) | fail) only [go_sem, k9, k2, k6, k8]))
    refine vr_call ?_
    simp only [go_sem]
    refine (vc75 h75 _ _ _ _).mono ?_ (fun _ _ h => h.elim)
    rintro d6 h6 ⟨rfl, kp6⟩
    have nx6 := kp6.1
    simp only [next_new, next_put] at nx6
    have m11 : hget h6.mem h5.next = some (.cells 71 (numI 9894494448401390090)) := (kp6.2 _ (by simp only [next_new, next_put]; omega)).trans hget_put_same
    repeat' (with_reducible (first | refine vp_skip ?_ | refine vp_exit ?_ | refine vp_ret ?_ | refine vp_seq ?_ | refine vp_cond ?_ | refine vp_block ?_ | refine vp_dreg ?_ | refine vp_reg ?_ | simp (maxSteps := 2000000) (disch := first | omega | (simp only [next_new, next_put]; omega) | fail) only [go_sem, k9, k2, k6, k8, m11, numI]))
    refine vr_call ?_
    simp only [go_sem]
    refine (vc72 h72 _ 2 _ _).mono ?_ (fun _ _ h => h.elim)
    rintro d7 h7 ⟨rfl, kp7⟩
    have nx7 := kp7.1
    simp only [next_new, next_put] at nx7
    have keep : ∀ l, l ≤ h.next → hget h7.mem l = hget hx.mem l := fun l hl => by
      rw [kp7.2 l (by simp only [next_new, next_put]; omega), hget_new_ne (by simp only [next_new, next_put]; omega), hget_put_ne (by omega), hget_new_ne (by omega), kp6.2 l (by simp only [next_new, next_put]; omega), hget_put_ne (by omega), hget_new_ne (by omega), kp5.2 l (by omega), k4 l (by omega), hget_new_ne (by simp only [next_new, next_put]; omega), hget_put_ne (by omega), hget_new_ne (by omega)]
      exact kp3.2 l (by omega)
    have m5 : hget h7.mem h.next = some (.cells 71 zV) := (keep _ (Nat.le_refl _)).trans mz
    repeat' (with_reducible (first | refine vp_skip ?_ | refine vp_exit ?_ | refine vp_ret ?_ | refine vp_seq ?_ | refine vp_cond ?_ | refine vp_block ?_ | refine vp_dreg ?_ | refine vp_reg ?_ | simp (maxSteps := 2000000) (disch := first | omega | (simp only [next_new, next_put]; omega) | fail) only [go_sem, k9, k2, k6, k8, m5, zV]))
    refine ⟨⟨_, rfl, rep_img w hh hv hvl i1 i2 i4 _ _ _ _ (by simp; omega) (by simp [List.append_assoc])⟩, Kp.put ⟨by have := kp.1; omega, fun l hl => (keep l (by omega)).trans (kp.2 l hl)⟩ (Nat.le_refl _) _⟩
end Run
end Go.Abs
