/- The chunks of a list, the program's and the document's, by rules. -/
import Derived.Test.YtbknmljjoahajaaGreatDoorNwValB
import Derived.Test.YtbknmljjoahajaaGreatDoorNwTree
set_option linter.unusedVariables false
set_option linter.unusedSimpArgs false
namespace Go.Abs
namespace Run
variable {E : Env} {T : Nat → FFn}
attribute [local go_sem] vr_mv vr_len vr_fa vr_nil vr_ext vr_not vr_ixs vr_sl vr_ld1 vr_ldN vr_st vr_alloc vr_box vr_mkmap vr_int vr_pick vr_build vr_buildSl vr_look vr_mk vr_app vr_sbin vr_fog vr_end vr_b2s vr_lens vr_slstr vr_cint vd_mv vd_fa vd_nil vd_ext vd_ixs vd_alloc vd_build vd_buildSl vd_ld1 vd_ldN vd_st vd_mset vd_app vd_int vd_end vd_cint vO_ok vD_ok vRd_ok vL_ok vB_t vB_f vG_t vG_f lseq_n lseq_r lseq_e kblk_n kblk_r kblk_e lfn_n lfn_r lloop_n lloop_e lloop_r sC_ok oFa_ptr oFa_ep oNil_ptr oNil_ep oLen_sl oLen_row oLen_nil oExt_0 oExt_1 oExt_2 okq_some oNot_bool oSl_nil rc_ptr rc_ep oRd oEp oLd1_some oLdN_some oSt oInt_int oPick_b oBuild_some oBuildSl_some ffill_nil oFill_some ffill patch oFind_some oFind_none oOne_some oTwo_some cfin_one cfin_two wanted_b wanted_u evs_nil evs_cons fargs_nil fargs_cons oLens_str oB2s_nil oSame_some readOk_loudS loudOk_rdS mem_cons loudT readT sames_one Option.map_some Option.map_none oCint_n cells_int cells_str cells_agg cells_sl cells_row cells_map cells_ptr cells_bool cells_nil one_nil one_cons one_int one_str one_sl one_row one_map one_ptr one_bool one_vnil deql dneq dlss dgtr dgeq iEq_n iLt_n iLe beq_dec blt_dec ble_dec mem_nil readOk_nil readOk_rd loudOk_nil loudOk_loud loudOk_none add_small List.drop_succ_cons List.drop_zero List.drop_nil List.take_succ_cons List.take_zero List.take_nil List.length_cons List.length_nil List.cons_append List.nil_append Nat.reduceAdd Nat.reduceEqDiff Nat.reduceLeDiff decide_true decide_false Bool.and_self Bool.and_true Bool.true_and Bool.not_true Bool.not_false cond_true cond_false true_and and_true Gt_St p0_eq kD_eq reduceIte Nat.add_zero Nat.zero_add Nat.reduceMul Nat.reduceSub Nat.reduceBEq List.map_cons List.map_nil next_new next_put hget_new_le hget_new_ne hget_put_same hget_put_ne
abbrev SC := Nat × List Nat
def secC (ss : List SC) : List D := ss.flatMap fun p => [.int .u32 (.ofNat p.1), .str p.2]
theorem secC_at {ss : List SC} {i : Nat} (h : i < ss.length) : ∃ rest, (secC ss).drop (i * 2) = [.int .u32 (.ofNat ss[i].1), .str ss[i].2] ++ rest := by
  induction ss generalizing i with
  | nil => simp at h
  | cons q r ih =>
    cases i with
    | zero => exact ⟨secC r, rfl⟩
    | succ i =>
      obtain ⟨rest, hr⟩ := ih (i := i) (by simpa using h)
      refine ⟨rest, ?_⟩
      simp only [List.getElem_cons_succ]
      rw [← hr, Nat.succ_mul]
      simp only [secC, List.flatMap_cons, List.cons_append, List.nil_append]
      rw [show i * 2 + 2 = (i * 2 + 1) + 1 by omega, List.drop_succ_cons, List.drop_succ_cons]
theorem row_head {d : D} {sx : List SC} (hd : RowD d sx.length (secC sx)) {m : Nat} (hm : m ≤ sx.length) : ∃ td, (∀ h, oSl 2 d (.int .i64 (.ofNat m)) h = .ok td h) ∧ (∀ h, oLen td h = .ok (.int .i64 (.ofNat m)) h) ∧
    ∀ i (hi : i < m), ∃ rest, ∀ h, oIxs 2 td (.int .i64 (.ofNat i)) h = .ok (.ep (.int .u32 (.ofNat (sx[i]'(Nat.lt_of_lt_of_le hi hm)).1) :: .str (sx[i]'(Nat.lt_of_lt_of_le hi hm)).2 :: rest)) h := by
  rcases hd with ⟨h0, rfl, hc⟩ | ⟨k, rfl⟩
  · have : m = 0 := by omega
    subst this
    exact ⟨_, fun h => oSl_nil, fun h => oLen_nil, fun i hi => absurd hi (Nat.not_lt_zero i)⟩
  · obtain ⟨id', cs', h1, h2⟩ := headSl_at (size := 2) (id := k) (n := sx.length) (m := m) (cs := secC sx) hm
    refine ⟨.sl id' m cs', fun h => by rw [oSl_sl hm, h1], fun h => oLen_sl, fun i hi => ?_⟩
    obtain ⟨rest, h3⟩ := secC_at (Nat.lt_of_lt_of_le hi hm)
    obtain ⟨rest', h5⟩ := h2 i _ rest h3 rfl hi
    exact ⟨rest', fun h => oIxs_sl hi (by rw [h5]; rfl)⟩
theorem row_len {d : D} {sx : List SC} (hd : RowD d sx.length (secC sx)) (h : H) : oLen d h = .ok (.int .i64 (.ofNat sx.length)) h := by
  rcases hd with ⟨h0, rfl, hc⟩ | ⟨k, rfl⟩
  · rw [h0]; rfl
  · rfl
def c27 : FC := (fseq (freg <| fo (u1 (r_fa 1) (Gt 7)) (St 27) <| fo (fld1 (Gt 27)) (St 28) <| fo (u1 (r_fa 1) (Gt 7)) (St 29) <| fo (fld1 (Gt 29)) (St 30) <| fo (u1 r_lens (Gt 30)) (St 31) <| fo (fbi .min #[3, 3] 3 #[false, true] [(Gt 31), (kD (.int .i64 (.ofNat 200)))]) (St 32) <| fo (fslstr (Gt 28) none (some (Gt 32))) (St 33) <| fo (u1 (r_fa 1) (Gt 7)) (St 34) <| fo (fst1 1 (Gt 34) (Gt 33)) p0 <| fend)
 (fdreg <| fdo (fmv (Gt 4)) (St 35) <| fdo (u1 (r_fa 0) (Gt 7)) (St 36) <| fdr 2 [0] 1 (Gt 36) (fld1 (Gt 36)) (St 37) <| fdo (fcint .u64 (Gt 37)) (St 38) <| fdo (u1 (r_fa 1) (Gt 7)) (St 39) <| fdr 5 [0, 1, 2, 3] 1 (Gt 39) (fld1 (Gt 39)) (St 40) <| fdl 6 [0] (fcalls 67 [(Gt 38), (Gt 40)]) (St 41) <| fdo (fbuildSl 42 1 [(.int .i64 (.ofNat 0)), (.int .u64 (.ofNat 0)), (.str []), (.v (.slice none 0 0))] [(0, 4, (Gt 41))]) (St 42) <| fdl 8 [] (u2 (r_app 42 4 56) (Gt 35) (Gt 42)) (St 43) <| fdo (fmv (Gt 5)) (St 44) <| fdo (u1 (r_fa 0) (Gt 7)) (St 45) <| fdr 11 [0, 1, 2, 3, 4, 5, 6, 7, 8, 9] 1 (Gt 45) (fld1 (Gt 45)) (St 46) <| fdo (fcint .u64 (Gt 46)) (St 47) <| fdo (u1 (r_fa 1) (Gt 7)) (St 48) <| fdr 14 [0, 1, 2, 3, 4, 5, 6, 7, 8, 9, 10, 11, 12] 1 (Gt 48) (fld1 (Gt 48)) (St 49) <| fdp 15 [9] (fcalls 68 [(Gt 47), (Gt 49)]) (St 50) <| fdo (fbuildSl 71 1 [(.int .i64 (.ofNat 0)), (.int .u64 (.ofNat 0)), (.str []), (.v (.slice none 0 0))] [(0, 4, (Gt 50))]) (St 51) <| fdl 17 [] (u2 (r_app 71 4 56) (Gt 44) (Gt 51)) (St 52) <| fdo (fmv (Gt 43)) (St 4) <| fdo (fmv (Gt 52)) (St 5) <| fdend))
def v27 : FFn := ffn v_ss (fun t h => .ok (.tup [Gt 2 t, Gt 3 t]) h)
 (fseq (freg <| fo (fmv (kD (.v (.slice none 0 0)))) (St 2) <| fo (fmv (kD (.v (.slice none 0 0)))) (St 3) <| fend)
 (fseq (freg <| fo (fmv (kD (.v (.slice none 0 0)))) (St 4) <| fend)
 (fseq (freg <| fo (fmv (kD (.v (.slice none 0 0)))) (St 5) <| fend)
 (fseq (fseq (freg <| fo (fmv (Gt 0)) (St 8) <| fo (fmv (Gt 0)) (St 9) <| fo (u1 r_len (Gt 9)) (St 10) <| fo (fbi .min #[3, 3] 3 #[false, true] [(Gt 10), (kD (.int .i64 (.ofNat 6)))]) (St 11) <| fo (uo (r_slsl 2) (Gt 8) none (some (Gt 11))) (St 12) <| fo (u1 r_len (Gt 12)) (St 13) <| fo (fmv (kD (.int .i64 (.ofNat 0)))) (St 14) <| fend)
 (fblock 0 (floop (fseq (freg <| fo (qint dlss .lss 3 (.tmp 14) (.tmp 13) (Gt 14) (Gt 13)) (St 15) <| fend)
 (fseq (fcond (Gt 15) fskip (fexit 0))
 (fseq (fblock 1 (fseq (freg <| fo (u2 (r_ixs 2) (Gt 12) (Gt 14)) (St 16) <| fo (fldN 2 (Gt 16)) (St 17) <| fo (falloc 150 [(.int .u32 (.ofNat 0)), (.str [])]) (St 7) <| fo (fst1 2 (Gt 7) (Gt 17)) p0 <| fend)
 (fseq (fseq (freg <| fo (u1 (r_fa 0) (Gt 7)) (St 18) <| fo (fld1 (Gt 18)) (St 19) <| fo (qint deql .eql 45 (.tmp 19) (.const (.int .u32 (.ofNat 1229472850))) (Gt 19) (kD (.int .u32 (.ofNat 1229472850)))) (St 20) <| fo (fmv (Gt 20)) (St 21) <| fog (Gt 21) false (u1 (r_fa 0) (Gt 7)) (St 22) <| fog (Gt 21) false (fld1 (Gt 22)) (St 23) <| fog (Gt 21) false (qint deql .eql 45 (.tmp 23) (.const (.int .u32 (.ofNat 1229278788))) (Gt 23) (kD (.int .u32 (.ofNat 1229278788)))) (St 24) <| fo (fpick (Gt 21) (kD (.v (.bool true))) (Gt 24)) (St 25) <| fend)
 (fcond (Gt 25) (freg <| fo (u1 (r_fa 0) (Gt 7)) (St 26) <| fo (fst1 1 (Gt 26) (kD (.int .u32 (.ofNat 1)))) p0 <| fend) fskip))
 c27)))
 (freg <| fo (qint dadd .add 3 (.tmp 14) (.const (.int .i64 (.ofNat 1))) (Gt 14) (kD (.int .i64 (.ofNat 1)))) (St 53) <| fo (fmv (Gt 53)) (St 14) <| fend)))))))
 (fseq (freg <| fo (fmv (Gt 4)) (St 54) <| fo (fmv (Gt 5)) (St 55) <| fo (fmv (Gt 54)) (St 2) <| fo (fmv (Gt 55)) (St 3) <| fend)
 fret)))))
def fixK (n : Nat) : Nat := if n = 1229472850 then 1 else if n = 1229278788 then 1 else n
def cutC (p : SC) : V := vChunk (fixK p.1) (mkB (p.2.take 200))
theorem vd_loudD {e : TypeId} {n0 : Nat} {h h0 : H} {i k id ix : Nat} {inc : List Nat} {cs ys : List D} {d : D} {p : D → Tr D → Tr D} {kd : FD} {recs : List Rec} {tt : Tr D} {Q : Aft} {R : Pan} (g : Grow2 n0 h e 4 i k cs d) (hn : n0 ≤ h.next) (hi : i ≤ 1000000) (ho : allOne ys = true) (hy : ys.length = 4)
    (hk : ∀ k' d' h', Grow2 n0 h' e 4 (i + 1) k' (cs ++ ys) d' → (k' = h.next ∨ (0 < i ∧ k' = k)) → h.next ≤ h'.next → h'.next ≤ h.next + 1 → (∀ l, l < h.next → (l ≠ k ∨ i = 0) → hget h'.mem l = hget h.mem l) → loudOk inc h' recs = true ∧ VD E T kd (.loud ix h0 :: recs) (p d' tt) h' Q R) : vL E T (oApp e 4 56 d (.sl id 1 ys) h) ix inc h0 p kd recs tt Q R := by
  obtain ⟨k', d', h', ea, g', h1, h2, h3, h4⟩ := app_one (id := id) g hn hi ho hy
  rw [ea]
  exact hk k' d' h' g' h1 h2 h3 h4
theorem sames_n (k : IntKind) (n : Int) : sames [.int k n] [.int k n] = true := by simp only [sames, D.same, decide_true, Bool.and_self]
theorem sames_s (b : List Nat) : sames [.str b] [.str b] = true := by simp only [sames, D.same, beqL_self, Bool.and_self]
theorem take_min200 (l : List Nat) : l.take (min l.length 200) = l.take 200 := by
  rw [Nat.min_comm, ← List.take_take, List.take_length]
theorem oCint_64 {n : Nat} {h : H} (hn : n ≤ 4294967295) : oCint .u64 (.int .u32 (.ofNat n)) h = .ok (.int .u64 (.ofNat n)) h := by
  have : wrapQ .u64 (.ofNat n) = .ofNat n := by
    have : Nat.ble n (kMax .u64) = true := ble_of (Nat.le_trans hn (by decide))
    show (bif Nat.ble n (kMax .u64) then Int.ofNat n else _) = _
    rw [this]; rfl
  show O.ok (D.int .u64 (wrapQ .u64 (.ofNat n))) h = _
  rw [this]
set_option maxHeartbeats 8000000 in
theorem tail_ok (h70 : T 70 = v70) (h26 : T 26 = v26) (h69 : T 69 = v69) (h21 : T 21 = v21) (h67 : T 67 = v67) (h71 : T 71 = v71) (h72 : T 72 = v72) (h73 : T 73 = v73) (h113 : T 113 = v113) (h68 : T 68 = v68)
    (n : Nat) (hn : n ≤ 4294967295) (b : List Nat) (n0 i ka kb : Nat) (ca cb : List D) (da db : D) (t : Tr D) (h : H) (q : Nat) (g7 : Gt 7 t = .ptr q 0) (g4 : Gt 4 t = da) (g5 : Gt 5 t = db) (mq : hget h.mem q = some (.cells 150 [.int .u32 (.ofNat n), .str b])) (hq : n0 ≤ q ∧ q < h.next) (hi : i ≤ 1000)
    (ga : Grow2 n0 h 42 4 i ka ca da) (gb : Grow2 n0 h 71 4 i kb cb db) (hne : i ≠ 0 → ka ≠ kb ∧ ka ≠ q ∧ kb ≠ q) (Q : Aft)
    (hQ : ∀ t' h' id1 id2 ka' kb' da' db', Gt 4 t' = da' → Gt 5 t' = db' → Gt 12 t' = Gt 12 t → Gt 13 t' = Gt 13 t → Gt 14 t' = Gt 14 t → Grow2 n0 h' 42 4 (i + 1) ka' (ca ++ [.int .i64 (.ofNat 4), .int .u64 (.ofNat 0), .str [], .sl id1 4 (dataC (b.take 200) n)]) da' → Grow2 n0 h' 71 4 (i + 1) kb' (cb ++ [.int .i64 (.ofNat 4), .int .u64 (.ofNat 0), .str [], .sl id2 4 (dataC (b.take 200) n)]) db' → ka' ≠ kb' → h.next ≤ h'.next → (∀ l, l < n0 → hget h'.mem l = hget h.mem l) → Q .normal t' h') :
    VP E T c27 t h Q noPan := by
  have hmn : min b.length 200 ≤ b.length := Nat.min_le_left _ _
  have htk := take_min200 b
  unfold c27
  repeat' (with_reducible (first | refine vp_skip ?_ | refine vp_exit ?_ | refine vp_ret ?_ | refine vp_seq ?_ | refine vp_cond ?_ | refine vp_block ?_ | refine vp_dreg ?_ | refine vp_reg ?_ | simp (maxSteps := 2000000) (disch := first | omega | (simp only [next_new, next_put]; omega) | fail) only [go_sem, g7, g4, g5, mq, vr_bi, evs_cons, evs_nil, List.map_cons, List.map_nil, minB, oSlstr_hi, htk, patch, vd_cint, oCint_64]))
  refine vd_call ?_
  simp only [go_sem]
  refine (vc67 h70 h26 h69 h21 h67 n _ _).mono ?_ (fun _ _ h => h.elim)
  rintro d1 h1 ⟨⟨i1, rfl⟩, kp1⟩
  have nx1 := kp1.1
  simp only [next_put] at nx1
  have mq0 : hget (fput' h q (.cells 150 [.int .u32 (.ofNat n), .str (b.take 200)])).mem q = some (.cells 150 [.int .u32 (.ofNat n), .str (b.take 200)]) := hget_put_same
  have mq1 : hget h1.mem q = some (.cells 150 [.int .u32 (.ofNat n), .str (b.take 200)]) := (kp1.2 q hq.2).trans mq0
  have hqa : q ≠ ka ∨ i = 0 := by
    by_cases h0 : i = 0
    · exact .inr h0
    · exact .inl (Ne.symm (hne h0).2.1)
  have al : 0 < i → ka < h.next ∧ n0 ≤ ka := fun h0 => by
    rcases ga with ⟨rfl, _⟩ | ⟨_, _, _, _, g4, g5⟩
    · omega
    · exact ⟨g5, g4⟩
  have bl : 0 < i → kb < h.next ∧ n0 ≤ kb := fun h0 => by
    rcases gb with ⟨rfl, _⟩ | ⟨_, _, _, _, g4, g5⟩
    · omega
    · exact ⟨g5, g4⟩
  have old1 : ∀ l, l < h.next → l ≠ q → hget (fnew h1 (.tip 1 42)).mem l = hget h.mem l := fun l hl hne => by
    rw [hget_new_ne (by omega), kp1.2 l (by rw [next_put]; exact hl), hget_put_ne hne]
  repeat' (with_reducible (first | refine vp_skip ?_ | refine vp_exit ?_ | refine vp_ret ?_ | refine vp_seq ?_ | refine vp_cond ?_ | refine vp_block ?_ | refine vp_dreg ?_ | refine vp_reg ?_ | simp (maxSteps := 2000000) (disch := first | omega | (simp only [next_new, next_put]; omega) | fail) only [go_sem, g7, g4, g5, vd_cint, oCint_64, sames_n, sames_s, Bool.true_or, Bool.or_true, Bool.false_or]))
  refine vd_loudD (n0 := n0) (i := i) (k := ka) (cs := ca) (grow_keep ga (fun h0 => old1 ka (al h0).1 (hne (by omega)).2.1) (by simp only [next_new]; omega)) (by simp only [next_new]; omega) (by omega) rfl rfl ?_
  intro ka' da' h2 ga' hka' n1 n2 k2
  simp only [next_new] at n1 n2 hka'
  have hk2 : ∀ l, l < h.next → (l ≠ ka ∨ i = 0) → l ≠ q → hget h2.mem l = hget h.mem l := fun l hl h1 h2 => (k2 l (by simp only [next_new]; omega) h1).trans (old1 l hl h2)
  have mq2 : hget h2.mem q = some (.cells 150 [.int .u32 (.ofNat n), .str (b.take 200)]) := (k2 q (by simp only [next_new]; omega) hqa).trans ((hget_new_ne (by omega)).trans mq1)
  refine ⟨by simp [loudOk_none], ?_⟩
  repeat' (with_reducible (first | refine vp_skip ?_ | refine vp_exit ?_ | refine vp_ret ?_ | refine vp_seq ?_ | refine vp_cond ?_ | refine vp_block ?_ | refine vp_dreg ?_ | refine vp_reg ?_ | simp (maxSteps := 2000000) (disch := first | omega | (simp only [next_new, next_put]; omega) | fail) only [go_sem, g7, g4, g5, vd_cint, oCint_64, sames_n, sames_s, Bool.true_or, Bool.or_true, Bool.false_or, mq0, mq1, mq2]))
  refine vd_callp ?_
  simp only [go_sem]
  refine (vc68 h71 h72 h73 h113 h68 n _ _).mono ?_ (fun _ _ h => h.elim)
  rintro d3 h3 ⟨⟨i2, rfl⟩, kp3⟩
  have nx3 := kp3.1
  try refine And.intro (by simp) ?_
  repeat' (with_reducible (first | refine vp_skip ?_ | refine vp_exit ?_ | refine vp_ret ?_ | refine vp_seq ?_ | refine vp_cond ?_ | refine vp_block ?_ | refine vp_dreg ?_ | refine vp_reg ?_ | simp (maxSteps := 2000000) (disch := first | omega | (simp only [next_new, next_put]; omega) | fail) only [go_sem, g7, g4, g5, vd_cint, oCint_64, sames_n, sames_s, Bool.true_or, Bool.or_true, Bool.false_or, mq0, mq1, mq2]))
  have old3 : ∀ l, l < h2.next → hget (fnew h3 (.tip 1 71)).mem l = hget h2.mem l := fun l hl => (hget_new_ne (by omega)).trans (kp3.2 l hl)
  obtain ⟨_, _, _, _, ga4, ga5⟩ := ga'.resolve_left (fun h => by omega)
  have hab : ka' ≠ kb ∨ i = 0 := by
    by_cases h0 : i = 0
    · exact .inr h0
    · have h1 := (bl (by omega)).1
      have h2 := (hne h0).1
      rcases hka' with e | ⟨_, e⟩
      · exact .inl (by omega)
      · exact .inl (by omega)
  refine vd_loudD (n0 := n0) (i := i) (k := kb) (cs := cb) (grow_keep gb (fun h0 => (old3 kb (by have := (bl h0).1; omega)).trans (hk2 kb (bl h0).1 (.inl (Ne.symm (hne (by omega)).1)) (hne (by omega)).2.2)) (by simp only [next_new]; omega)) (by simp only [next_new]; omega) (by omega) rfl rfl ?_
  intro kb' db' h4 gb' hkb' n3 n4 k4
  simp only [next_new] at n3 n4 hkb'
  refine ⟨by simp [loudOk_none], ?_⟩
  repeat' (with_reducible (first | refine vp_skip ?_ | refine vp_exit ?_ | refine vp_ret ?_ | refine vp_seq ?_ | refine vp_cond ?_ | refine vp_block ?_ | refine vp_dreg ?_ | refine vp_reg ?_ | simp (maxSteps := 2000000) (disch := first | omega | (simp only [next_new, next_put]; omega) | fail) only [go_sem, g7, g4, g5]))
  have e4 : ∀ l, l < h2.next → (l ≠ kb ∨ i = 0) → hget h4.mem l = hget h2.mem l := fun l hl h => (k4 l (by simp only [next_new]; omega) h).trans (old3 l hl)
  refine hQ _ h4 i1 i2 ka' kb' da' db' ?_ ?_ ?_ ?_ ?_ (grow_keep ga' (fun _ => e4 ka' ga5 hab) (by omega)) gb' ?_ (by omega) ?_
  · simp (maxSteps := 2000000) only [go_sem]
  · simp (maxSteps := 2000000) only [go_sem]
  · simp (maxSteps := 2000000) only [go_sem]
  · simp (maxSteps := 2000000) only [go_sem]
  · simp (maxSteps := 2000000) only [go_sem]
  · rcases hkb' with e | ⟨h0, e⟩
    · omega
    · rcases hab with h1 | h1
      · omega
      · omega
  · intro l hl
    have hla : l ≠ ka ∨ i = 0 := by
      by_cases h0 : i = 0
      · exact .inr h0
      · have := (al (by omega)).2
        exact .inl (by omega)
    have hlb : l ≠ kb ∨ i = 0 := by
      by_cases h0 : i = 0
      · exact .inr h0
      · have := (bl (by omega)).2
        exact .inl (by omega)
    exact (e4 l (by omega) hlb).trans (hk2 l (by omega) hla (by omega))
def LC (raw : List SC) (m0 : Nat) (td : D) (h0 : H) (_ : Tr D) (_ : H) (mm : Nat) (t : Tr D) (h : H) : Prop :=
  ∃ i ka kb da db ga gb, i ≤ m0 ∧ mm = m0 - i ∧ Gt 12 t = td ∧ Gt 13 t = .int .i64 (.ofNat m0) ∧ Gt 14 t = .int .i64 (.ofNat i) ∧ Gt 4 t = da ∧ Gt 5 t = db ∧
    Grow2 h0.next h 42 4 i ka (List.flatten ga) da ∧ Grow2 h0.next h 71 4 i kb (List.flatten gb) db ∧ Reps ((raw.take i).map cutC) ga ∧ Reps ((raw.take i).map cutC) gb ∧ (i ≠ 0 → ka ≠ kb) ∧ Kp h0 h
theorem oLdN2 {a b : D} {r : List D} : oEp (a :: b :: r) 2 = some [a, b] := oEp_at rfl rfl
theorem grow_lrep {n0 : Nat} {h : H} {e i k : Nat} {gs : List (List D)} {d : D} {vs : List V} (g : Grow2 n0 h e 4 i k gs.flatten d) (hv : Reps vs gs) (hl : vs.length = i) (hi : i ≤ 1000) : LRep d gs := by
  have hgl := hv.len
  rcases g with ⟨rfl, rfl, _⟩ | ⟨_, rfl, _⟩
  · have : gs = [] := List.length_eq_zero_iff.1 (by omega)
    subst this
    exact lrep_nil
  · exact ⟨⟨by omega, hv.four⟩, .inr ⟨k, by rw [hgl, hl]⟩⟩
set_option maxHeartbeats 16000000 in
theorem vc27 (h70 : T 70 = v70) (h26 : T 26 = v26) (h69 : T 69 = v69) (h21 : T 21 = v21) (h67 : T 67 = v67) (h71 : T 71 = v71) (h72 : T 72 = v72) (h73 : T 73 = v73) (h113 : T 113 = v113) (h68 : T 68 = v68) (h27 : T 27 = v27)
    (raw : List SC) (ld : D) (hld : RowD ld raw.length (secC raw)) (hraw : ∀ p ∈ raw, p.1 ≤ 4294967295) (h : H) :
    VC E T 27 [ld] h (fun x h' => (∃ da db ga gb, x = .tup [da, db] ∧ LRep da ga ∧ LRep db gb ∧ Reps ((raw.take (min raw.length 6)).map cutC) ga ∧ Reps ((raw.take (min raw.length 6)).map cutC) gb) ∧ Kp h h') noPan := by
  obtain ⟨m0, hm⟩ : ∃ m0, min raw.length 6 = m0 := ⟨_, rfl⟩
  have hml : m0 ≤ raw.length := by omega
  have hm6 : m0 ≤ 6 := by omega
  rw [hm]
  obtain ⟨td, x1, x2, x3⟩ := row_head hld hml
  have x0 := row_len hld
  refine vc_fn h27 ?_
  unfold v_ss
  repeat' (with_reducible (first | refine vp_skip ?_ | refine vp_exit ?_ | refine vp_ret ?_ | refine vp_seq ?_ | refine vp_cond ?_ | refine vp_block ?_ | refine vp_dreg ?_ | refine vp_reg ?_ | simp (maxSteps := 2000000) (disch := first | omega | (simp only [next_new, next_put]; omega) | fail) only [go_sem, vr_bi, evs_cons, evs_nil, List.map_cons, List.map_nil, minB, hm, x0, x1, x2]))
  refine vp_loopC (LC raw m0 td h) m0 ?_ ?_
  · refine ⟨0, 0, 0, nilS, nilS, [], [], Nat.zero_le _, rfl, ?_, ?_, ?_, ?_, ?_, .inl ⟨rfl, rfl, rfl⟩, .inl ⟨rfl, rfl, rfl⟩, trivial, trivial, fun h => absurd rfl h, Kp.refl _⟩
    all_goals simp (maxSteps := 2000000) only [go_sem]
  rintro mm t1 h1 ⟨i, ka, kb, da, db, ga, gb, hi, rfl, k12, k13, k14, k4, k5, gra, grb, ra, rb, hne, kp⟩
  by_cases hlt : i < m0
  · have hd : decide (i < m0) = true := decide_eq_true hlt
    obtain ⟨rest, hx⟩ := x3 i hlt
    have hrl : i < raw.length := by omega
    have hk := hraw raw[i] (List.getElem_mem hrl)
    have kp1 := kp.1
    have al : 0 < i → ka < h1.next ∧ h.next ≤ ka := fun h0 => by
      rcases gra with ⟨rfl, _⟩ | ⟨_, _, _, _, g4, g5⟩
      · omega
      · exact ⟨g5, g4⟩
    have bl : 0 < i → kb < h1.next ∧ h.next ≤ kb := fun h0 => by
      rcases grb with ⟨rfl, _⟩ | ⟨_, _, _, _, g4, g5⟩
      · omega
      · exact ⟨g5, g4⟩
    by_cases hk1 : raw[i].1 = 1229472850
    · have hfx : fixK raw[i].1 = 1 := by simp [fixK, hk1]
      have c1 : decide (raw[i].1 = 1229472850) = true := decide_eq_true hk1
      repeat' (with_reducible (first | refine vp_skip ?_ | refine vp_exit ?_ | refine vp_ret ?_ | refine vp_seq ?_ | refine vp_cond ?_ | refine vp_block ?_ | refine vp_dreg ?_ | refine vp_reg ?_ | simp (maxSteps := 2000000) (disch := first | omega | (simp only [next_new, next_put]; omega) | fail) only [go_sem, k12, k13, k14, k4, k5, hd, hx, oLdN2, patch, beq_dec, c1]))
      refine tail_ok h70 h26 h69 h21 h67 h71 h72 h73 h113 h68 1 (by omega) raw[i].2 h.next i ka kb ga.flatten gb.flatten da db _ _ h1.next ?_ ?_ ?_ ?_ ?_ (by omega) (grow_keep gra (fun h0 => ?_) ?_) (grow_keep grb (fun h0 => ?_) ?_) (fun h0 => ⟨hne h0, ?_, ?_⟩) _ ?_
      rotate_right
      · intro t' h' id1 id2 ka' kb' da' db' e4 e5 e12 e13 e14 ga' gb' hne' nx hold
        simp only [next_new, next_put] at nx
        simp (maxSteps := 2000000) (disch := first | omega | (simp only [next_new, next_put]; omega) | fail) only [go_sem, k12] at e12
        simp (maxSteps := 2000000) (disch := first | omega | (simp only [next_new, next_put]; omega) | fail) only [go_sem, k13] at e13
        simp (maxSteps := 2000000) (disch := first | omega | (simp only [next_new, next_put]; omega) | fail) only [go_sem, k14] at e14
        repeat' (with_reducible (first | refine vp_skip ?_ | refine vp_exit ?_ | refine vp_ret ?_ | refine vp_seq ?_ | refine vp_cond ?_ | refine vp_block ?_ | refine vp_dreg ?_ | refine vp_reg ?_ | simp (maxSteps := 2000000) (disch := first | omega | (simp only [next_new, next_put]; omega) | fail) only [go_sem, e4, e5, e12, e13, e14]))
        have hr1 : Rep (cutC raw[i]) [.int .i64 (.ofNat 4), .int .u64 (.ofNat 0), .str [], .sl id1 4 (dataC (raw[i].2.take 200) (1))] := by
          unfold cutC; rw [hfx]; exact rep_chunk (rep_bytes _) _ _
        have hr2 : Rep (cutC raw[i]) [.int .i64 (.ofNat 4), .int .u64 (.ofNat 0), .str [], .sl id2 4 (dataC (raw[i].2.take 200) (1))] := by
          unfold cutC; rw [hfx]; exact rep_chunk (rep_bytes _) _ _
        have et : (raw.take (i + 1)).map cutC = (raw.take i).map cutC ++ [cutC raw[i]] := by rw [take_snoc hrl, List.map_append]; rfl
        refine ⟨m0 - (i + 1), by omega, i + 1, ka', kb', da', db', ga ++ [_], gb ++ [_], by omega, rfl, ?_, ?_, ?_, ?_, ?_, ?_, ?_, by rw [et]; exact ra.app ⟨hr1, trivial⟩, by rw [et]; exact rb.app ⟨hr2, trivial⟩, fun _ => hne', ⟨by omega, fun l hl => (hold l hl).trans ?_⟩⟩
        · simp (maxSteps := 2000000) (disch := first | omega | (simp only [next_new, next_put]; omega) | fail) only [go_sem, e12]
        · simp (maxSteps := 2000000) (disch := first | omega | (simp only [next_new, next_put]; omega) | fail) only [go_sem, e13]
        · simp (maxSteps := 2000000) (disch := first | omega | (simp only [next_new, next_put]; omega) | fail) only [go_sem, e14]
        · simp (maxSteps := 2000000) (disch := first | omega | (simp only [next_new, next_put]; omega) | fail) only [go_sem, e4]
        · simp (maxSteps := 2000000) (disch := first | omega | (simp only [next_new, next_put]; omega) | fail) only [go_sem, e5]
        · rw [List.flatten_append]; simpa using ga'
        · rw [List.flatten_append]; simpa using gb'
        · simp (maxSteps := 2000000) (disch := first | omega | (simp only [next_new, next_put]; omega) | fail) only [go_sem]
          exact kp.2 l hl
      · simp (maxSteps := 2000000) (disch := first | omega | (simp only [next_new, next_put]; omega) | fail) only [go_sem]
      · simp (maxSteps := 2000000) (disch := first | omega | (simp only [next_new, next_put]; omega) | fail) only [go_sem, k4]
      · simp (maxSteps := 2000000) (disch := first | omega | (simp only [next_new, next_put]; omega) | fail) only [go_sem, k5]
      · simp (maxSteps := 2000000) (disch := first | omega | (simp only [next_new, next_put]; omega) | fail) only [go_sem, patch]
      · exact ⟨kp.1, by simp only [next_new, next_put]; omega⟩
      · have := (al h0).1
        simp (maxSteps := 2000000) (disch := first | omega | (simp only [next_new, next_put]; omega) | fail) only [go_sem]
      · simp only [next_new, next_put]; omega
      · have := (bl h0).1
        simp (maxSteps := 2000000) (disch := first | omega | (simp only [next_new, next_put]; omega) | fail) only [go_sem]
      · simp only [next_new, next_put]; omega
      · have := (al (by omega)).1; omega
      · have := (bl (by omega)).1; omega
    · have c1 : decide (raw[i].1 = 1229472850) = false := decide_eq_false hk1
      by_cases hk2 : raw[i].1 = 1229278788
      · have hfx : fixK raw[i].1 = 1 := by simp [fixK, hk2]
        have c2 : decide (raw[i].1 = 1229278788) = true := decide_eq_true hk2
        repeat' (with_reducible (first | refine vp_skip ?_ | refine vp_exit ?_ | refine vp_ret ?_ | refine vp_seq ?_ | refine vp_cond ?_ | refine vp_block ?_ | refine vp_dreg ?_ | refine vp_reg ?_ | simp (maxSteps := 2000000) (disch := first | omega | (simp only [next_new, next_put]; omega) | fail) only [go_sem, k12, k13, k14, k4, k5, hd, hx, oLdN2, patch, beq_dec, c1, c2]))
        refine tail_ok h70 h26 h69 h21 h67 h71 h72 h73 h113 h68 1 (by omega) raw[i].2 h.next i ka kb ga.flatten gb.flatten da db _ _ h1.next ?_ ?_ ?_ ?_ ?_ (by omega) (grow_keep gra (fun h0 => ?_) ?_) (grow_keep grb (fun h0 => ?_) ?_) (fun h0 => ⟨hne h0, ?_, ?_⟩) _ ?_
        rotate_right
        · intro t' h' id1 id2 ka' kb' da' db' e4 e5 e12 e13 e14 ga' gb' hne' nx hold
          simp only [next_new, next_put] at nx
          simp (maxSteps := 2000000) (disch := first | omega | (simp only [next_new, next_put]; omega) | fail) only [go_sem, k12] at e12
          simp (maxSteps := 2000000) (disch := first | omega | (simp only [next_new, next_put]; omega) | fail) only [go_sem, k13] at e13
          simp (maxSteps := 2000000) (disch := first | omega | (simp only [next_new, next_put]; omega) | fail) only [go_sem, k14] at e14
          repeat' (with_reducible (first | refine vp_skip ?_ | refine vp_exit ?_ | refine vp_ret ?_ | refine vp_seq ?_ | refine vp_cond ?_ | refine vp_block ?_ | refine vp_dreg ?_ | refine vp_reg ?_ | simp (maxSteps := 2000000) (disch := first | omega | (simp only [next_new, next_put]; omega) | fail) only [go_sem, e4, e5, e12, e13, e14]))
          have hr1 : Rep (cutC raw[i]) [.int .i64 (.ofNat 4), .int .u64 (.ofNat 0), .str [], .sl id1 4 (dataC (raw[i].2.take 200) (1))] := by
            unfold cutC; rw [hfx]; exact rep_chunk (rep_bytes _) _ _
          have hr2 : Rep (cutC raw[i]) [.int .i64 (.ofNat 4), .int .u64 (.ofNat 0), .str [], .sl id2 4 (dataC (raw[i].2.take 200) (1))] := by
            unfold cutC; rw [hfx]; exact rep_chunk (rep_bytes _) _ _
          have et : (raw.take (i + 1)).map cutC = (raw.take i).map cutC ++ [cutC raw[i]] := by rw [take_snoc hrl, List.map_append]; rfl
          refine ⟨m0 - (i + 1), by omega, i + 1, ka', kb', da', db', ga ++ [_], gb ++ [_], by omega, rfl, ?_, ?_, ?_, ?_, ?_, ?_, ?_, by rw [et]; exact ra.app ⟨hr1, trivial⟩, by rw [et]; exact rb.app ⟨hr2, trivial⟩, fun _ => hne', ⟨by omega, fun l hl => (hold l hl).trans ?_⟩⟩
          · simp (maxSteps := 2000000) (disch := first | omega | (simp only [next_new, next_put]; omega) | fail) only [go_sem, e12]
          · simp (maxSteps := 2000000) (disch := first | omega | (simp only [next_new, next_put]; omega) | fail) only [go_sem, e13]
          · simp (maxSteps := 2000000) (disch := first | omega | (simp only [next_new, next_put]; omega) | fail) only [go_sem, e14]
          · simp (maxSteps := 2000000) (disch := first | omega | (simp only [next_new, next_put]; omega) | fail) only [go_sem, e4]
          · simp (maxSteps := 2000000) (disch := first | omega | (simp only [next_new, next_put]; omega) | fail) only [go_sem, e5]
          · rw [List.flatten_append]; simpa using ga'
          · rw [List.flatten_append]; simpa using gb'
          · simp (maxSteps := 2000000) (disch := first | omega | (simp only [next_new, next_put]; omega) | fail) only [go_sem]
            exact kp.2 l hl
        · simp (maxSteps := 2000000) (disch := first | omega | (simp only [next_new, next_put]; omega) | fail) only [go_sem]
        · simp (maxSteps := 2000000) (disch := first | omega | (simp only [next_new, next_put]; omega) | fail) only [go_sem, k4]
        · simp (maxSteps := 2000000) (disch := first | omega | (simp only [next_new, next_put]; omega) | fail) only [go_sem, k5]
        · simp (maxSteps := 2000000) (disch := first | omega | (simp only [next_new, next_put]; omega) | fail) only [go_sem, patch]
        · exact ⟨kp.1, by simp only [next_new, next_put]; omega⟩
        · have := (al h0).1
          simp (maxSteps := 2000000) (disch := first | omega | (simp only [next_new, next_put]; omega) | fail) only [go_sem]
        · simp only [next_new, next_put]; omega
        · have := (bl h0).1
          simp (maxSteps := 2000000) (disch := first | omega | (simp only [next_new, next_put]; omega) | fail) only [go_sem]
        · simp only [next_new, next_put]; omega
        · have := (al (by omega)).1; omega
        · have := (bl (by omega)).1; omega
      · have hfx : fixK raw[i].1 = raw[i].1 := by simp [fixK, hk1, hk2]
        have c2 : decide (raw[i].1 = 1229278788) = false := decide_eq_false hk2
        repeat' (with_reducible (first | refine vp_skip ?_ | refine vp_exit ?_ | refine vp_ret ?_ | refine vp_seq ?_ | refine vp_cond ?_ | refine vp_block ?_ | refine vp_dreg ?_ | refine vp_reg ?_ | simp (maxSteps := 2000000) (disch := first | omega | (simp only [next_new, next_put]; omega) | fail) only [go_sem, k12, k13, k14, k4, k5, hd, hx, oLdN2, patch, beq_dec, c1, c2]))
        refine tail_ok h70 h26 h69 h21 h67 h71 h72 h73 h113 h68 raw[i].1 (by omega) raw[i].2 h.next i ka kb ga.flatten gb.flatten da db _ _ h1.next ?_ ?_ ?_ ?_ ?_ (by omega) (grow_keep gra (fun h0 => ?_) ?_) (grow_keep grb (fun h0 => ?_) ?_) (fun h0 => ⟨hne h0, ?_, ?_⟩) _ ?_
        rotate_right
        · intro t' h' id1 id2 ka' kb' da' db' e4 e5 e12 e13 e14 ga' gb' hne' nx hold
          simp only [next_new, next_put] at nx
          simp (maxSteps := 2000000) (disch := first | omega | (simp only [next_new, next_put]; omega) | fail) only [go_sem, k12] at e12
          simp (maxSteps := 2000000) (disch := first | omega | (simp only [next_new, next_put]; omega) | fail) only [go_sem, k13] at e13
          simp (maxSteps := 2000000) (disch := first | omega | (simp only [next_new, next_put]; omega) | fail) only [go_sem, k14] at e14
          repeat' (with_reducible (first | refine vp_skip ?_ | refine vp_exit ?_ | refine vp_ret ?_ | refine vp_seq ?_ | refine vp_cond ?_ | refine vp_block ?_ | refine vp_dreg ?_ | refine vp_reg ?_ | simp (maxSteps := 2000000) (disch := first | omega | (simp only [next_new, next_put]; omega) | fail) only [go_sem, e4, e5, e12, e13, e14]))
          have hr1 : Rep (cutC raw[i]) [.int .i64 (.ofNat 4), .int .u64 (.ofNat 0), .str [], .sl id1 4 (dataC (raw[i].2.take 200) (raw[i].1))] := by
            unfold cutC; rw [hfx]; exact rep_chunk (rep_bytes _) _ _
          have hr2 : Rep (cutC raw[i]) [.int .i64 (.ofNat 4), .int .u64 (.ofNat 0), .str [], .sl id2 4 (dataC (raw[i].2.take 200) (raw[i].1))] := by
            unfold cutC; rw [hfx]; exact rep_chunk (rep_bytes _) _ _
          have et : (raw.take (i + 1)).map cutC = (raw.take i).map cutC ++ [cutC raw[i]] := by rw [take_snoc hrl, List.map_append]; rfl
          refine ⟨m0 - (i + 1), by omega, i + 1, ka', kb', da', db', ga ++ [_], gb ++ [_], by omega, rfl, ?_, ?_, ?_, ?_, ?_, ?_, ?_, by rw [et]; exact ra.app ⟨hr1, trivial⟩, by rw [et]; exact rb.app ⟨hr2, trivial⟩, fun _ => hne', ⟨by omega, fun l hl => (hold l hl).trans ?_⟩⟩
          · simp (maxSteps := 2000000) (disch := first | omega | (simp only [next_new, next_put]; omega) | fail) only [go_sem, e12]
          · simp (maxSteps := 2000000) (disch := first | omega | (simp only [next_new, next_put]; omega) | fail) only [go_sem, e13]
          · simp (maxSteps := 2000000) (disch := first | omega | (simp only [next_new, next_put]; omega) | fail) only [go_sem, e14]
          · simp (maxSteps := 2000000) (disch := first | omega | (simp only [next_new, next_put]; omega) | fail) only [go_sem, e4]
          · simp (maxSteps := 2000000) (disch := first | omega | (simp only [next_new, next_put]; omega) | fail) only [go_sem, e5]
          · rw [List.flatten_append]; simpa using ga'
          · rw [List.flatten_append]; simpa using gb'
          · simp (maxSteps := 2000000) (disch := first | omega | (simp only [next_new, next_put]; omega) | fail) only [go_sem]
            exact kp.2 l hl
        · simp (maxSteps := 2000000) (disch := first | omega | (simp only [next_new, next_put]; omega) | fail) only [go_sem]
        · simp (maxSteps := 2000000) (disch := first | omega | (simp only [next_new, next_put]; omega) | fail) only [go_sem, k4]
        · simp (maxSteps := 2000000) (disch := first | omega | (simp only [next_new, next_put]; omega) | fail) only [go_sem, k5]
        · simp (maxSteps := 2000000) (disch := first | omega | (simp only [next_new, next_put]; omega) | fail) only [go_sem, patch]
        · exact ⟨kp.1, by simp only [next_new, next_put]; omega⟩
        · have := (al h0).1
          simp (maxSteps := 2000000) (disch := first | omega | (simp only [next_new, next_put]; omega) | fail) only [go_sem]
        · simp only [next_new, next_put]; omega
        · have := (bl h0).1
          simp (maxSteps := 2000000) (disch := first | omega | (simp only [next_new, next_put]; omega) | fail) only [go_sem]
        · simp only [next_new, next_put]; omega
        · have := (al (by omega)).1; omega
        · have := (bl (by omega)).1; omega
  · obtain rfl : i = m0 := by omega
    have hd : decide (i < i) = false := by simp
    repeat' (with_reducible (first | refine vp_skip ?_ | refine vp_exit ?_ | refine vp_ret ?_ | refine vp_seq ?_ | refine vp_cond ?_ | refine vp_block ?_ | refine vp_dreg ?_ | refine vp_reg ?_ | simp (maxSteps := 2000000) (disch := first | omega | (simp only [next_new, next_put]; omega) | fail) only [go_sem, k12, k13, k14, k4, k5, hd]))
    have hl : ((raw.take i).map cutC).length = i := by rw [List.length_map, List.length_take]; omega
    exact ⟨⟨da, db, ga, gb, rfl, grow_lrep gra ra hl (by omega), grow_lrep grb rb hl (by omega), ra, rb⟩, kp⟩
end Run
end Go.Abs
namespace Go.Abs
namespace Run
variable {E : Env} {T : Nat → FFn}
attribute [local go_sem] vr_mv vr_len vr_fa vr_nil vr_ext vr_not vr_ixs vr_sl vr_ld1 vr_ldN vr_st vr_alloc vr_box vr_mkmap vr_int vr_pick vr_build vr_buildSl vr_look vr_mk vr_app vr_sbin vr_fog vr_end vr_b2s vr_lens vr_slstr vr_cint vd_mv vd_fa vd_nil vd_ext vd_ixs vd_alloc vd_build vd_buildSl vd_ld1 vd_ldN vd_st vd_mset vd_app vd_int vd_end vd_cint vO_ok vD_ok vRd_ok vL_ok vB_t vB_f vG_t vG_f lseq_n lseq_r lseq_e kblk_n kblk_r kblk_e lfn_n lfn_r lloop_n lloop_e lloop_r sC_ok oFa_ptr oFa_ep oNil_ptr oNil_ep oLen_sl oLen_row oLen_nil oExt_0 oExt_1 oExt_2 okq_some oNot_bool oSl_nil rc_ptr rc_ep oRd oEp oLd1_some oLdN_some oSt oInt_int oPick_b oBuild_some oBuildSl_some ffill_nil oFill_some ffill patch oFind_some oFind_none oOne_some oTwo_some cfin_one cfin_two wanted_b wanted_u evs_nil evs_cons fargs_nil fargs_cons oLens_str oB2s_nil oSame_some readOk_loudS loudOk_rdS mem_cons loudT readT sames_one Option.map_some Option.map_none oCint_n cells_int cells_str cells_agg cells_sl cells_row cells_map cells_ptr cells_bool cells_nil one_nil one_cons one_int one_str one_sl one_row one_map one_ptr one_bool one_vnil deql dneq dlss dgtr dgeq iEq_n iLt_n iLe beq_dec blt_dec ble_dec mem_nil readOk_nil readOk_rd loudOk_nil loudOk_loud loudOk_none add_small List.drop_succ_cons List.drop_zero List.drop_nil List.take_succ_cons List.take_zero List.take_nil List.length_cons List.length_nil List.cons_append List.nil_append Nat.reduceAdd Nat.reduceEqDiff Nat.reduceLeDiff decide_true decide_false Bool.and_self Bool.and_true Bool.true_and Bool.not_true Bool.not_false cond_true cond_false true_and and_true Gt_St p0_eq kD_eq reduceIte Nat.add_zero Nat.zero_add Nat.reduceMul Nat.reduceSub Nat.reduceBEq List.map_cons List.map_nil next_new next_put hget_new_le hget_new_ne hget_put_same hget_put_ne
def v6 : FFn := ffn v_ss (fun t h => .ok (Gt 6 t) h)
 (fseq (freg <| fo (fmv (kD (.v (.bool false)))) (St 6) <| fend)
 (fseq (freg <| fo (fmv (Gt 0)) (St 11) <| fo (fcalls 27 [(Gt 11)]) (St 12) <| fo (fmv (Gt 12)) (St 10) <| fo (u1 (r_ext 0) (Gt 10)) (St 13) <| fo (u1 (r_ext 1) (Gt 10)) (St 14) <| fo (fmv (Gt 13)) (St 7) <| fo (fmv (Gt 14)) (St 8) <| fend)
 (fseq (fseq (freg <| fo (fmv (Gt 7)) (St 15) <| fo (u1 r_len (Gt 15)) (St 16) <| fo (fmv (kD (.int .i64 (.ofNat 0)))) (St 17) <| fend)
 (fblock 0 (floop (fseq (freg <| fo (qint dlss .lss 3 (.tmp 17) (.tmp 16) (Gt 17) (Gt 16)) (St 18) <| fend)
 (fseq (fcond (Gt 18) fskip (fexit 0))
 (fseq (fblock 1 (fseq (freg <| fo (fmv (Gt 17)) (St 19) <| fo (fmv (Gt 19)) (St 9) <| fend)
 (fseq (fdreg <| fdo (fmv (Gt 7)) (St 20) <| fdo (fmv (Gt 9)) (St 21) <| fdo (u2 (r_ixs 4) (Gt 20) (Gt 21)) (St 22) <| fdr 3 [] 4 (Gt 22) (fldN 4 (Gt 22)) (St 23) <| fdo (fmv (Gt 8)) (St 24) <| fdo (fmv (Gt 9)) (St 25) <| fdo (u2 (r_ixs 4) (Gt 24) (Gt 25)) (St 26) <| fdr 7 [0, 1, 2, 3] 4 (Gt 26) (fldN 4 (Gt 26)) (St 27) <| fdp 8 [] (fcalls 28 [(Gt 23), (Gt 27)]) (St 28) <| fdo (u1 (r_un .not) (Gt 28)) (St 29) <| fdend)
 (fcond (Gt 29) (fseq (freg <| fo (fmv (kD (.v (.bool false)))) (St 6) <| fend)
 fret) fskip))))
 (freg <| fo (qint dadd .add 3 (.tmp 17) (.const (.int .i64 (.ofNat 1))) (Gt 17) (kD (.int .i64 (.ofNat 1)))) (St 30) <| fo (fmv (Gt 30)) (St 17) <| fend)))))))
 (fseq (freg <| fo (fcalls 29 []) (St 31) <| fo (fmv (Gt 31)) (St 32) <| fog (Gt 32) true (fcalls 30 []) (St 33) <| fog (Gt 32) true (fcalls 31 []) (St 34) <| fog (Gt 32) true (qint deql .eql 9 (.tmp 33) (.tmp 34) (Gt 33) (Gt 34)) (St 35) <| fo (fpick (Gt 32) (Gt 35) (kD (.v (.bool false)))) (St 36) <| fo (fmv (Gt 36)) (St 37) <| fog (Gt 37) true (fmv (Gt 1)) (St 38) <| fog (Gt 37) true (fmv (Gt 2)) (St 39) <| fog (Gt 37) true (fcalls 32 [(Gt 38), (Gt 39)]) (St 40) <| fog (Gt 37) true (fmv (Gt 1)) (St 41) <| fog (Gt 37) true (fmv (Gt 2)) (St 42) <| fog (Gt 37) true (fcalls 33 [(Gt 41), (Gt 42)]) (St 43) <| fog (Gt 37) true (fcalls 28 [(Gt 40), (Gt 43)]) (St 44) <| fo (fpick (Gt 37) (Gt 44) (kD (.v (.bool false)))) (St 45) <| fo (fmv (Gt 45)) (St 46) <| fog (Gt 46) true (fmv (Gt 1)) (St 47) <| fog (Gt 46) true (fmv (Gt 2)) (St 48) <| fog (Gt 46) true (fmv (Gt 7)) (St 49) <| fog (Gt 46) true (fcalls 34 [(Gt 47), (Gt 48), (Gt 49)]) (St 50) <| fog (Gt 46) true (fmv (Gt 1)) (St 51) <| fog (Gt 46) true (fmv (Gt 2)) (St 52) <| fog (Gt 46) true (fmv (Gt 8)) (St 53) <| fog (Gt 46) true (fcalls 35 [(Gt 51), (Gt 52), (Gt 53)]) (St 54) <| fog (Gt 46) true (fcalls 28 [(Gt 50), (Gt 54)]) (St 55) <| fo (fpick (Gt 46) (Gt 55) (kD (.v (.bool false)))) (St 56) <| fo (fmv (Gt 56)) (St 6) <| fend)
 fret))))
theorem oEq_str {ty : TypeId} {ox oy : Operand} {a : List Nat} {h : H} : oInt E deql .eql ty ox oy (.str a) (.str a) h = .ok (.v (.bool true)) h := by
  simp only [oInt, binD, quickBin, beqL_self, ok?]
theorem vc_run {f : Nat} {d : D} (hf : T f = flib (libRun [] d)) (h : H) : VC E T f [] h (fun x h' => x = d ∧ h' = h) noPan := vc_lib hf ⟨rfl, rfl⟩
theorem same_ok (h28 : T 28 = v28) {v : V} {a b : List D} (ha : Rep v a) (hb : Rep v b) (h : H) : VC E T 28 [.agg a, .agg b] h (fun d h' => d = .v (.bool true) ∧ Kp h h') noPan := same_all h28 _ v (Nat.lt_succ_self _) a b h ha hb
def LM (da db : D) (n w hh : Nat) (_ : Tr D) (_ : H) (mm : Nat) (t : Tr D) (_ : H) : Prop :=
  ∃ i, i ≤ n ∧ mm = n - i ∧ Gt 7 t = da ∧ Gt 8 t = db ∧ Gt 16 t = .int .i64 (.ofNat n) ∧ Gt 17 t = .int .i64 (.ofNat i) ∧ Gt 1 t = .int .u64 (.ofNat w) ∧ Gt 2 t = .int .u64 (.ofNat hh)
structure Tb (T : Nat → FFn) (tx : List Nat) : Prop where
  h6 : T 6 = v6
  h21 : T 21 = v21
  h26 : T 26 = v26
  h27 : T 27 = v27
  h28 : T 28 = v28
  h29 : T 29 = flib (libRun [] (.v (.bool true)))
  h30 : T 30 = flib (libRun [] (.str tx))
  h31 : T 31 = flib (libRun [] (.str tx))
  h32 : T 32 = v32
  h33 : T 33 = v33
  h34 : T 34 = v34
  h35 : T 35 = v35
  h67 : T 67 = v67
  h68 : T 68 = v68
  h69 : T 69 = v69
  h70 : T 70 = v70
  h71 : T 71 = v71
  h72 : T 72 = v72
  h73 : T 73 = v73
  h74 : T 74 = v74
  h75 : T 75 = v75
  h113 : T 113 = v113
set_option maxHeartbeats 16000000 in
theorem vc6 {tx : List Nat} (b : Tb T tx) (raw : List SC) (ld : D) (hld : RowD ld raw.length (secC raw)) (hraw : ∀ p ∈ raw, p.1 ≤ 4294967295) (w hh : Nat) (h : H) :
    VC E T 6 [ld, .int .u64 (.ofNat w), .int .u64 (.ofNat hh)] h (fun x h' => x = .v (.bool true)) noPan := by
  refine vc_fn b.h6 ?_
  unfold v_ss
  repeat' (with_reducible (first | refine vp_skip ?_ | refine vp_exit ?_ | refine vp_ret ?_ | refine vp_seq ?_ | refine vp_cond ?_ | refine vp_block ?_ | refine vp_dreg ?_ | refine vp_reg ?_ | simp (maxSteps := 2000000) (disch := first | omega | (simp only [next_new, next_put]; omega) | fail) only [go_sem]))
  refine vr_call ?_
  simp only [go_sem]
  refine (vc27 b.h70 b.h26 b.h69 b.h21 b.h67 b.h71 b.h72 b.h73 b.h113 b.h68 b.h27 raw ld hld hraw _).mono ?_ (fun _ _ h => h.elim)
  rintro d1 h1 ⟨⟨da, db, ga, gb, rfl, la, lb, ra, rb⟩, kp1⟩
  have el := la.len
  have hga := ra.len
  have hgb := rb.len
  repeat' (with_reducible (first | refine vp_skip ?_ | refine vp_exit ?_ | refine vp_ret ?_ | refine vp_seq ?_ | refine vp_cond ?_ | refine vp_block ?_ | refine vp_dreg ?_ | refine vp_reg ?_ | simp (maxSteps := 2000000) (disch := first | omega | (simp only [next_new, next_put]; omega) | fail) only [go_sem, el]))
  refine vp_loopC (LM da db ga.length w hh) ga.length ?_ ?_
  · refine ⟨0, Nat.zero_le _, rfl, ?_, ?_, ?_, ?_, ?_, ?_⟩
    all_goals simp (maxSteps := 2000000) only [go_sem]
  rintro mm t1 hx ⟨i, hi, rfl, k7, k8, k16, k17, k1, k2⟩
  have hbd := la.1.1
  by_cases hlt : i < ga.length
  · have hd : decide (i < ga.length) = true := decide_eq_true hlt
    have r1 := ra.at i (((raw.take (min raw.length 6)).map cutC)[i]'(by omega)) ga[i] (List.getElem?_eq_getElem (by omega)) (List.getElem?_eq_getElem hlt)
    have r2 := rb.at i (((raw.take (min raw.length 6)).map cutC)[i]'(by omega)) (gb[i]'(by omega)) (List.getElem?_eq_getElem (by omega)) (List.getElem?_eq_getElem (by omega))
    obtain ⟨a1, a2, a3, a4, ea⟩ := r1.four
    obtain ⟨b1, b2, b3, b4, eb⟩ := r2.four
    obtain ⟨w1, x1⟩ := la.at hlt ea
    obtain ⟨w2, x2⟩ := lb.at (by omega) eb
    rw [ea] at r1
    rw [eb] at r2
    have s1 := r1.same
    have s2 := r2.same
    repeat' (with_reducible (first | refine vp_skip ?_ | refine vp_exit ?_ | refine vp_ret ?_ | refine vp_seq ?_ | refine vp_cond ?_ | refine vp_block ?_ | refine vp_dreg ?_ | refine vp_reg ?_ | simp (maxSteps := 2000000) (disch := first | omega | (simp only [next_new, next_put]; omega) | fail) only [go_sem, k7, k8, k16, k17, k1, k2, hd, x1, x2, oEp4, s1, s2, Bool.or_true, Bool.true_or]))
    refine vd_callp ?_
    simp only [go_sem]
    refine (same_ok b.h28 r1 r2 _).mono ?_ (fun _ _ h => h.elim)
    rintro d2 h2 ⟨rfl, kp2⟩
    try refine And.intro (by simp) ?_
    repeat' (with_reducible (first | refine vp_skip ?_ | refine vp_exit ?_ | refine vp_ret ?_ | refine vp_seq ?_ | refine vp_cond ?_ | refine vp_block ?_ | refine vp_dreg ?_ | refine vp_reg ?_ | simp (maxSteps := 2000000) (disch := first | omega | (simp only [next_new, next_put]; omega) | fail) only [go_sem, k7, k8, k16, k17, k1, k2, hd, vd_not]))
    refine ⟨ga.length - (i + 1), by omega, i + 1, by omega, rfl, ?_, ?_, ?_, ?_, ?_, ?_⟩
    all_goals simp (maxSteps := 2000000) (disch := first | omega | (simp only [next_new, next_put]; omega) | fail) only [go_sem, k7, k8, k16, k17, k1, k2]
  · obtain rfl : i = ga.length := by omega
    have hd : decide (ga.length < ga.length) = false := by simp
    have hvl : ((raw.take (min raw.length 6)).map cutC).length ≤ 1000 := by rw [List.length_map, List.length_take]; omega
    repeat' (with_reducible (first | refine vp_skip ?_ | refine vp_exit ?_ | refine vp_ret ?_ | refine vp_seq ?_ | refine vp_cond ?_ | refine vp_block ?_ | refine vp_dreg ?_ | refine vp_reg ?_ | simp (maxSteps := 2000000) (disch := first | omega | (simp only [next_new, next_put]; omega) | fail) only [go_sem, k7, k8, k16, k17, k1, k2, hd, oEq_str]))
    refine vr_call ?_
    simp only [go_sem]
    refine (vc_run b.h29 _).mono ?_ (fun _ _ h => h.elim)
    rintro d2 h2 ⟨rfl, rfl⟩
    repeat' (with_reducible (first | refine vp_skip ?_ | refine vp_exit ?_ | refine vp_ret ?_ | refine vp_seq ?_ | refine vp_cond ?_ | refine vp_block ?_ | refine vp_dreg ?_ | refine vp_reg ?_ | simp (maxSteps := 2000000) (disch := first | omega | (simp only [next_new, next_put]; omega) | fail) only [go_sem, k7, k8, k16, k17, k1, k2, hd, oEq_str]))
    refine vr_call ?_
    simp only [go_sem]
    refine (vc_run b.h30 _).mono ?_ (fun _ _ h => h.elim)
    rintro d2 h2 ⟨rfl, rfl⟩
    repeat' (with_reducible (first | refine vp_skip ?_ | refine vp_exit ?_ | refine vp_ret ?_ | refine vp_seq ?_ | refine vp_cond ?_ | refine vp_block ?_ | refine vp_dreg ?_ | refine vp_reg ?_ | simp (maxSteps := 2000000) (disch := first | omega | (simp only [next_new, next_put]; omega) | fail) only [go_sem, k7, k8, k16, k17, k1, k2, hd, oEq_str]))
    refine vr_call ?_
    simp only [go_sem]
    refine (vc_run b.h31 _).mono ?_ (fun _ _ h => h.elim)
    rintro d2 h2 ⟨rfl, rfl⟩
    repeat' (with_reducible (first | refine vp_skip ?_ | refine vp_exit ?_ | refine vp_ret ?_ | refine vp_seq ?_ | refine vp_cond ?_ | refine vp_block ?_ | refine vp_dreg ?_ | refine vp_reg ?_ | simp (maxSteps := 2000000) (disch := first | omega | (simp only [next_new, next_put]; omega) | fail) only [go_sem, k7, k8, k16, k17, k1, k2, hd, oEq_str]))
    refine vr_call ?_
    simp only [go_sem]
    refine (vc32 b.h70 b.h26 b.h69 b.h32 w hh _).mono ?_ (fun _ _ h => h.elim)
    rintro d3 h3 ⟨⟨i1, i2, rfl⟩, kp3⟩
    repeat' (with_reducible (first | refine vp_skip ?_ | refine vp_exit ?_ | refine vp_ret ?_ | refine vp_seq ?_ | refine vp_cond ?_ | refine vp_block ?_ | refine vp_dreg ?_ | refine vp_reg ?_ | simp (maxSteps := 2000000) (disch := first | omega | (simp only [next_new, next_put]; omega) | fail) only [go_sem, k7, k8, k16, k17, k1, k2, hd, oEq_str]))
    refine vr_call ?_
    simp only [go_sem]
    refine (vc33 b.h71 b.h72 b.h73 b.h33 w hh _).mono ?_ (fun _ _ h => h.elim)
    rintro d4 h4 ⟨⟨i3, i4, rfl⟩, kp4⟩
    repeat' (with_reducible (first | refine vp_skip ?_ | refine vp_exit ?_ | refine vp_ret ?_ | refine vp_seq ?_ | refine vp_cond ?_ | refine vp_block ?_ | refine vp_dreg ?_ | refine vp_reg ?_ | simp (maxSteps := 2000000) (disch := first | omega | (simp only [next_new, next_put]; omega) | fail) only [go_sem, k7, k8, k16, k17, k1, k2, hd, oEq_str]))
    refine vr_call ?_
    simp only [go_sem]
    refine (same_ok b.h28 (rep_hdr w hh i1 i2) (rep_hdr w hh i3 i4) _).mono ?_ (fun _ _ h => h.elim)
    rintro d5 h5 ⟨rfl, kp5⟩
    repeat' (with_reducible (first | refine vp_skip ?_ | refine vp_exit ?_ | refine vp_ret ?_ | refine vp_seq ?_ | refine vp_cond ?_ | refine vp_block ?_ | refine vp_dreg ?_ | refine vp_reg ?_ | simp (maxSteps := 2000000) (disch := first | omega | (simp only [next_new, next_put]; omega) | fail) only [go_sem, k7, k8, k16, k17, k1, k2, hd, oEq_str]))
    refine vr_call ?_
    simp only [go_sem]
    refine (vc34 b.h70 b.h26 b.h69 b.h32 b.h74 b.h34 w hh ra hvl la _).mono ?_ (fun _ _ h => h.elim)
    rintro d6 h6 ⟨⟨c1, rfl, q1⟩, kp6⟩
    repeat' (with_reducible (first | refine vp_skip ?_ | refine vp_exit ?_ | refine vp_ret ?_ | refine vp_seq ?_ | refine vp_cond ?_ | refine vp_block ?_ | refine vp_dreg ?_ | refine vp_reg ?_ | simp (maxSteps := 2000000) (disch := first | omega | (simp only [next_new, next_put]; omega) | fail) only [go_sem, k7, k8, k16, k17, k1, k2, hd, oEq_str]))
    refine vr_call ?_
    simp only [go_sem]
    refine (vc35 b.h71 b.h72 b.h73 b.h33 b.h75 b.h35 w hh rb hvl lb _).mono ?_ (fun _ _ h => h.elim)
    rintro d7 h7 ⟨⟨c2, rfl, q2⟩, kp7⟩
    repeat' (with_reducible (first | refine vp_skip ?_ | refine vp_exit ?_ | refine vp_ret ?_ | refine vp_seq ?_ | refine vp_cond ?_ | refine vp_block ?_ | refine vp_dreg ?_ | refine vp_reg ?_ | simp (maxSteps := 2000000) (disch := first | omega | (simp only [next_new, next_put]; omega) | fail) only [go_sem, k7, k8, k16, k17, k1, k2, hd, oEq_str]))
    refine vr_call ?_
    simp only [go_sem]
    refine (same_ok b.h28 q1 q2 _).mono ?_ (fun _ _ h => h.elim)
    rintro d8 h8 ⟨rfl, kp8⟩
    repeat' (with_reducible (first | refine vp_skip ?_ | refine vp_exit ?_ | refine vp_ret ?_ | refine vp_seq ?_ | refine vp_cond ?_ | refine vp_block ?_ | refine vp_dreg ?_ | refine vp_reg ?_ | simp (maxSteps := 2000000) (disch := first | omega | (simp only [next_new, next_put]; omega) | fail) only [go_sem, k7, k8, k16, k17, k1, k2, hd, oEq_str]))
end Run
end Go.Abs
