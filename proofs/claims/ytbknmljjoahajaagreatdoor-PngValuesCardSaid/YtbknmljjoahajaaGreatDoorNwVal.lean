/- Values as trees; two of one shape are the same. -/
import Derived.Test.YtbknmljjoahajaaGreatDoorNwWay
set_option linter.unusedVariables false
set_option linter.unusedSimpArgs false
namespace Go.Abs
namespace Run
variable {E : Env} {T : Nat → FFn}
attribute [local go_sem] vr_mv vr_len vr_fa vr_nil vr_ext vr_not vr_ixs vr_sl vr_ld1 vr_ldN vr_st vr_alloc vr_box vr_mkmap vr_int vr_pick vr_build vr_buildSl vr_look vr_mk vr_app vr_sbin vr_fog vr_end vr_b2s vr_lens vr_slstr vr_cint vd_mv vd_fa vd_nil vd_ext vd_ixs vd_alloc vd_build vd_buildSl vd_ld1 vd_ldN vd_st vd_mset vd_app vd_int vd_end vd_cint vO_ok vD_ok vRd_ok vL_ok vB_t vB_f vG_t vG_f lseq_n lseq_r lseq_e kblk_n kblk_r kblk_e lfn_n lfn_r lloop_n lloop_e lloop_r sC_ok oFa_ptr oFa_ep oNil_ptr oNil_ep oLen_sl oLen_row oLen_nil oExt_0 oExt_1 oExt_2 okq_some oNot_bool oSl_nil rc_ptr rc_ep oRd oEp oLd1_some oLdN_some oSt oInt_int oPick_b oBuild_some oBuildSl_some ffill_nil oFill_some ffill oFind_some oFind_none oOne_some oTwo_some cfin_one cfin_two wanted_b wanted_u evs_nil evs_cons fargs_nil fargs_cons oLens_str oB2s_nil oApp_unf oApp_unil oSame_some readOk_loudS loudOk_rdS mem_cons loudT readT sames_one Option.map_some Option.map_none oCint_n cells_int cells_str cells_agg cells_sl cells_row cells_map cells_ptr cells_bool cells_nil one_nil one_cons one_int one_str one_sl one_row one_map one_ptr one_bool one_vnil deql dneq dlss dgtr dgeq iEq_n iLt_n iLe beq_dec blt_dec ble_dec mem_nil readOk_nil readOk_rd loudOk_nil loudOk_loud loudOk_none add_small List.drop_succ_cons List.drop_zero List.drop_nil List.take_succ_cons List.take_zero List.take_nil List.length_cons List.length_nil List.cons_append List.nil_append Nat.reduceAdd Nat.reduceEqDiff Nat.reduceLeDiff decide_true decide_false Bool.and_self Bool.and_true Bool.true_and Bool.not_true Bool.not_false cond_true cond_false true_and and_true Gt_St p0_eq kD_eq reduceIte Nat.add_zero Nat.zero_add Nat.reduceMul Nat.reduceSub Nat.reduceBEq List.map_cons List.map_nil next_new next_put hget_new_le hget_new_ne hget_put_same hget_put_ne
def v_ss : List (D → Tr D → Tr D) := [St 0, St 1, St 2, St 3, St 4, St 5, St 6, St 7, St 8, St 9, St 10, St 11]
def v28 : FFn := ffn v_ss (fun t h => .ok (Gt 4 t) h)
 (fseq (freg <| fo (fbox 42 (Gt 0)) (St 2) <| fo (fbox 71 (Gt 1)) (St 3) <| fo (fmv (kD (.v (.bool false)))) (St 4) <| fend)
 (fseq (fseq (freg <| fo (u1 (r_fa 0) (Gt 2)) (St 6) <| fo (fld1 (Gt 6)) (St 7) <| fo (u1 (r_fa 0) (Gt 3)) (St 8) <| fo (fld1 (Gt 8)) (St 9) <| fo (qint dneq .neq 3 (.tmp 7) (.tmp 9) (Gt 7) (Gt 9)) (St 10) <| fo (fmv (Gt 10)) (St 11) <| fog (Gt 11) false (u1 (r_fa 1) (Gt 2)) (St 12) <| fog (Gt 11) false (fld1 (Gt 12)) (St 13) <| fog (Gt 11) false (u1 (r_fa 1) (Gt 3)) (St 14) <| fog (Gt 11) false (fld1 (Gt 14)) (St 15) <| fog (Gt 11) false (qint dneq .neq 39 (.tmp 13) (.tmp 15) (Gt 13) (Gt 15)) (St 16) <| fo (fpick (Gt 11) (kD (.v (.bool true))) (Gt 16)) (St 17) <| fo (fmv (Gt 17)) (St 18) <| fog (Gt 18) false (u1 (r_fa 2) (Gt 2)) (St 19) <| fog (Gt 18) false (fld1 (Gt 19)) (St 20) <| fog (Gt 18) false (u1 (r_fa 2) (Gt 3)) (St 21) <| fog (Gt 18) false (fld1 (Gt 21)) (St 22) <| fog (Gt 18) false (qint dneq .neq 9 (.tmp 20) (.tmp 22) (Gt 20) (Gt 22)) (St 23) <| fo (fpick (Gt 18) (kD (.v (.bool true))) (Gt 23)) (St 24) <| fo (fmv (Gt 24)) (St 25) <| fog (Gt 25) false (u1 (r_fa 3) (Gt 2)) (St 26) <| fog (Gt 25) false (fld1 (Gt 26)) (St 27) <| fog (Gt 25) false (u1 r_len (Gt 27)) (St 28) <| fog (Gt 25) false (u1 (r_fa 3) (Gt 3)) (St 29) <| fog (Gt 25) false (fld1 (Gt 29)) (St 30) <| fog (Gt 25) false (u1 r_len (Gt 30)) (St 31) <| fog (Gt 25) false (qint dneq .neq 3 (.tmp 28) (.tmp 31) (Gt 28) (Gt 31)) (St 32) <| fo (fpick (Gt 25) (kD (.v (.bool true))) (Gt 32)) (St 33) <| fend)
 (fcond (Gt 33) (fseq (freg <| fo (fmv (kD (.v (.bool false)))) (St 4) <| fend)
 fret) fskip))
 (fseq (fseq (freg <| fo (u1 (r_fa 3) (Gt 2)) (St 34) <| fo (fld1 (Gt 34)) (St 35) <| fo (u1 r_len (Gt 35)) (St 36) <| fo (fmv (kD (.int .i64 (.ofNat 0)))) (St 37) <| fend)
 (fblock 0 (floop (fseq (freg <| fo (qint dlss .lss 3 (.tmp 37) (.tmp 36) (Gt 37) (Gt 36)) (St 38) <| fend)
 (fseq (fcond (Gt 38) fskip (fexit 0))
 (fseq (fblock 1 (fseq (freg <| fo (fmv (Gt 37)) (St 39) <| fo (fmv (Gt 39)) (St 5) <| fend)
 (fseq (fdreg <| fdo (u1 (r_fa 3) (Gt 2)) (St 40) <| fdr 1 [] 1 (Gt 40) (fld1 (Gt 40)) (St 41) <| fdo (fmv (Gt 5)) (St 42) <| fdo (u2 (r_ixs 4) (Gt 41) (Gt 42)) (St 43) <| fdr 4 [] 4 (Gt 43) (fldN 4 (Gt 43)) (St 44) <| fdo (u1 (r_fa 3) (Gt 3)) (St 45) <| fdr 6 [0, 1, 2, 3, 4] 1 (Gt 45) (fld1 (Gt 45)) (St 46) <| fdo (fmv (Gt 5)) (St 47) <| fdo (u2 (r_ixs 4) (Gt 46) (Gt 47)) (St 48) <| fdr 9 [0, 1, 2, 3, 4] 4 (Gt 48) (fldN 4 (Gt 48)) (St 49) <| fdp 10 [] (fcalls 28 [(Gt 44), (Gt 49)]) (St 50) <| fdo (u1 (r_un .not) (Gt 50)) (St 51) <| fdend)
 (fcond (Gt 51) (fseq (freg <| fo (fmv (kD (.v (.bool false)))) (St 4) <| fend)
 fret) fskip))))
 (freg <| fo (qint dadd .add 3 (.tmp 37) (.const (.int .i64 (.ofNat 1))) (Gt 37) (kD (.int .i64 (.ofNat 1)))) (St 52) <| fo (fmv (Gt 52)) (St 37) <| fend)))))))
 (fseq (freg <| fo (fmv (kD (.v (.bool true)))) (St 4) <| fend)
 fret))))
theorem vd_not {g : Tr D → D} {p : D → Tr D → Tr D} {kd : FD} {recs : List Rec} {t : Tr D} {h : H} {Q : Aft} {R : Pan} : VD E T (fdo (u1 (r_un .not) g) p kd) recs t h Q R ↔ vD E T (oNot E (g t) h) p kd recs t Q R := vd_fo fun _ => rfl
theorem vd_callp {i : Nat} {inc : List Nat} {recs : List Rec} {p : D → Tr D → Tr D} {kd : FD} {t : Tr D} {h : H} {Q : Aft} {R : Pan} {f : Nat} {gs : List (Tr D → D)} (hc : VC E T f (evs gs t) h (fun d h' => loudOk inc h' recs = true ∧ VD E T kd (.loud i h :: recs) (p d t) h' Q R) R) : VD E T (fdp i inc (fcalls f gs) p kd) recs t h Q R := by
  obtain ⟨o, ⟨M, hM⟩, ho⟩ := hc
  cases o with
  | ok d h1 =>
    obtain ⟨hb, x, ⟨N, hN⟩, hq⟩ := ho
    refine ⟨x, ⟨N + M, fun m hm => ?_⟩, hq⟩
    show O.casesOn (motive := fun _ => XT) (fcall E T m f (evs gs t) h) _ _ _ = x
    rw [hM m (by omega)]
    simp only [hb, cond_true]
    exact hN m (by omega)
  | panic d h' =>
    refine ⟨.panic d h', ⟨M, fun m hm => ?_⟩, ho⟩
    show O.casesOn (motive := fun _ => XT) (fcall E T m f (evs gs t) h) _ _ _ = _
    rw [hM m hm]
  | fail w => exact ho.elim
theorem beqL_self : ∀ l : List Nat, beqL l l = true
  | [] => rfl
  | a :: r => by simp only [beqL, Nat.beq_refl, beqL_self r, cond_true, Bool.and_self]
theorem oNe_str {ty : TypeId} {ox oy : Operand} {a : List Nat} {h : H} : oInt E dneq .neq ty ox oy (.str a) (.str a) h = .ok (.v (.bool false)) h := by
  simp only [oInt, binD, quickBin, beqL_self, ok?, Bool.not_true]
inductive V
  | mk (k n : Nat) (b : List Nat) (l : List V)
def LRep (L : D) (cs : List (List D)) : Prop := (cs.length ≤ 1000000 ∧ ∀ c ∈ cs, c.length = 4) ∧ ((cs = [] ∧ L = .v (.slice none 0 0)) ∨ ∃ id, L = .sl id cs.length cs.flatten)
inductive Rep : V → List D → Prop
  | mk {k n : Nat} {b : List Nat} {l : List V} {L : D} {cs : List (List D)} (hl : LRep L cs) (hn : cs.length = l.length) (hr : ∀ (i : Nat) (v : V) (c : List D), l[i]? = some v → cs[i]? = some c → Rep v c) : Rep (.mk k n b l) [.int .i64 (.ofNat k), .int .u64 (.ofNat n), .str b, L]
def Kp (h h' : H) : Prop := h.next ≤ h'.next ∧ ∀ l, l < h.next → hget h'.mem l = hget h.mem l
theorem Kp.refl (h : H) : Kp h h := ⟨Nat.le_refl _, fun _ _ => rfl⟩
theorem Kp.trans {a b c : H} (x : Kp a b) (y : Kp b c) : Kp a c := ⟨Nat.le_trans x.1 y.1, fun l hl => (y.2 l (Nat.lt_of_lt_of_le hl x.1)).trans (x.2 l hl)⟩
theorem Kp.new {h : H} (o : AObj) : Kp h (fnew h o) := ⟨Nat.le_succ _, fun l hl => hget_new_ne (by omega)⟩
theorem Kp.put {h h' : H} (x : Kp h h') {l : Nat} (hl : h.next ≤ l) (o : AObj) : Kp h (fput' h' l o) := ⟨x.1, fun k hk => (hget_put_ne (by omega)).trans (x.2 k hk)⟩
theorem flat_len : ∀ {cs : List (List D)}, (∀ c ∈ cs, c.length = 4) → cs.flatten.length = cs.length * 4
  | [], _ => rfl
  | c :: r, h => by
    rw [List.flatten_cons, List.length_append, flat_len fun x hx => h x (List.mem_cons_of_mem _ hx), h c (List.mem_cons_self ..), List.length_cons]
    omega
theorem flat_drop : ∀ {cs : List (List D)} (h : ∀ c ∈ cs, c.length = 4) {i : Nat} (hi : i < cs.length), ∃ rest, cs.flatten.drop (i * 4) = cs[i] ++ rest
  | [], _, i, hi => by cases hi
  | c :: r, h, 0, _ => ⟨r.flatten, rfl⟩
  | c :: r, h, i + 1, hi => by
    obtain ⟨rest, hr⟩ := flat_drop (fun x hx => h x (List.mem_cons_of_mem _ hx)) (i := i) (Nat.lt_of_succ_lt_succ hi)
    refine ⟨rest, ?_⟩
    have h4 : c.length = 4 := h c (List.mem_cons_self ..)
    rw [List.flatten_cons, List.getElem_cons_succ, ← hr, show (i + 1) * 4 = c.length + i * 4 by omega, ← List.drop_drop, List.drop_left]
theorem LRep.len {L : D} {cs : List (List D)} (h : LRep L cs) (hh : H) : oLen L hh = .ok (.int .i64 (.ofNat cs.length)) hh := by
  rcases h.2 with ⟨rfl, rfl⟩ | ⟨id, rfl⟩ <;> rfl
theorem LRep.at {L : D} {cs : List (List D)} (h : LRep L cs) {i : Nat} (hi : i < cs.length) {a b c d : D} (hc : cs[i] = [a, b, c, d]) : ∃ rest, ∀ hh, oIxs 4 L (.int .i64 (.ofNat i)) hh = .ok (.ep (a :: b :: c :: d :: rest)) hh := by
  rcases h.2 with ⟨rfl, _⟩ | ⟨id, rfl⟩
  · cases hi
  · obtain ⟨rest, hr⟩ := flat_drop h.1.2 hi
    rw [hc] at hr
    exact ⟨rest, fun hh => oIxs_sl hi hr⟩
def LS (h0 : H) (c1 c2 : List D) (n : Nat) (_ : Tr D) (_ : H) (m : Nat) (t : Tr D) (h : H) : Prop :=
  ∃ i, i ≤ n ∧ m = n - i ∧ Gt 36 t = .int .i64 (.ofNat n) ∧ Gt 37 t = .int .i64 (.ofNat i) ∧ Gt 2 t = .ptr h0.next 0 ∧ Gt 3 t = .ptr (h0.next + 1) 0 ∧
    hget h.mem h0.next = some (.cells 42 c1) ∧ hget h.mem (h0.next + 1) = some (.cells 71 c2) ∧ Kp h0 h ∧ h0.next + 2 ≤ h.next
theorem Rep.four {v : V} {c : List D} (h : Rep v c) : ∃ a b d e, c = [a, b, d, e] := by
  cases h
  exact ⟨_, _, _, _, rfl⟩
theorem oEp4 {a b c d : D} {r : List D} : oEp (a :: b :: c :: d :: r) 4 = some [a, b, c, d] := oEp_at rfl rfl
theorem V.lt {k n : Nat} {b : List Nat} {l : List V} {x : V} (h : x ∈ l) : SizeOf.sizeOf x < SizeOf.sizeOf (V.mk k n b l) := by
  have := List.sizeOf_lt_of_mem h
  simp
  omega
set_option maxHeartbeats 4000000 in
theorem same_all (h28 : T 28 = v28) : ∀ (z : Nat) (v : V), SizeOf.sizeOf v < z → ∀ (a b : List D) (h : H), Rep v a → Rep v b → VC E T 28 [.agg a, .agg b] h (fun d h' => d = .v (.bool true) ∧ Kp h h') noPan := by
  intro z
  induction z with
  | zero => intro v hv; exact absurd hv (Nat.not_lt_zero _)
  | succ z ih =>
  intro v hz a b h ha hb
  obtain ⟨k, n, bs, l⟩ := v
  cases ha with
  | mk hl1 hn1 hr1 =>
  rename_i L1 cs1
  cases hb with
  | mk hl2 hn2 hr2 =>
  rename_i L2 cs2
  refine vc_fn h28 ?_
  unfold v_ss
  have e1 : ∀ hh, oLen L1 hh = .ok (.int .i64 (.ofNat l.length)) hh := fun hh => (hl1.len hh).trans (by rw [hn1])
  have e2 : ∀ hh, oLen L2 hh = .ok (.int .i64 (.ofNat l.length)) hh := fun hh => (hl2.len hh).trans (by rw [hn2])
  repeat' (with_reducible (first | refine vp_skip ?_ | refine vp_exit ?_ | refine vp_ret ?_ | refine vp_seq ?_ | refine vp_cond ?_ | refine vp_block ?_ | refine vp_dreg ?_ | refine vp_reg ?_ | simp (maxSteps := 2000000) (disch := first | omega | (simp only [next_new, next_put]; omega) | fail) only [go_sem, e1, e2, oNe_str]))
  refine vp_loopC (LS h [.int .i64 (.ofNat k), .int .u64 (.ofNat n), .str bs, L1] [.int .i64 (.ofNat k), .int .u64 (.ofNat n), .str bs, L2] l.length) l.length ?_ ?_
  · refine ⟨0, Nat.zero_le _, rfl, ?_, ?_, ?_, ?_, ?_, ?_, (Kp.new _).trans (Kp.new _), ?_⟩
    all_goals first | (simp (maxSteps := 2000000) (disch := first | omega | (simp only [next_new, next_put]; omega) | fail) only [go_sem]; done) | (simp only [next_new]; omega)
  rintro m t1 h1 ⟨i, hi, rfl, k36, k37, k2, k3, m2, m3, kp, nx⟩
  have hlb := hl1.1.1
  by_cases hlt : i < l.length
  · have hd : decide (i < l.length) = true := decide_eq_true hlt
    have ra := hr1 i l[i] (cs1[i]'(by omega)) (List.getElem?_eq_getElem hlt) (List.getElem?_eq_getElem (by omega))
    have rb := hr2 i l[i] (cs2[i]'(by omega)) (List.getElem?_eq_getElem hlt) (List.getElem?_eq_getElem (by omega))
    obtain ⟨a1, a2, a3, a4, ea⟩ := ra.four
    obtain ⟨b1, b2, b3, b4, eb⟩ := rb.four
    obtain ⟨w1, x1⟩ := hl1.at (by omega) ea
    obtain ⟨w2, x2⟩ := hl2.at (by omega) eb
    rw [ea] at ra
    rw [eb] at rb
    repeat' (with_reducible (first | refine vp_skip ?_ | refine vp_exit ?_ | refine vp_ret ?_ | refine vp_seq ?_ | refine vp_cond ?_ | refine vp_block ?_ | refine vp_dreg ?_ | refine vp_reg ?_ | simp (maxSteps := 2000000) (disch := first | omega | (simp only [next_new, next_put]; omega) | fail) only [go_sem, k36, k37, k2, k3, m2, m3, hd, x1, x2, e1, e2, oEp4]))
    refine vd_callp ?_
    simp only [go_sem]
    refine (ih l[i] (Nat.lt_of_lt_of_le (V.lt (List.getElem_mem hlt)) (Nat.le_of_lt_succ hz)) _ _ _ ra rb).mono ?_ (fun _ _ h => h.elim)
    rintro d h' ⟨rfl, kp'⟩
    have n2 := (kp'.2 h.next (by omega)).trans m2
    have n3 := (kp'.2 (h.next + 1) (by omega)).trans m3
    refine ⟨by simp, ?_⟩
    repeat' (with_reducible (first | refine vp_skip ?_ | refine vp_exit ?_ | refine vp_ret ?_ | refine vp_seq ?_ | refine vp_cond ?_ | refine vp_block ?_ | refine vp_dreg ?_ | refine vp_reg ?_ | simp (maxSteps := 2000000) (disch := first | omega | (simp only [next_new, next_put]; omega) | fail) only [go_sem, k36, k37, k2, k3, n2, n3, hd, e1, e2, oEp4, vd_not]))
    refine ⟨l.length - (i + 1), by omega, i + 1, by omega, rfl, ?_, ?_, ?_, ?_, n2, n3, kp.trans kp', Nat.le_trans nx kp'.1⟩
    all_goals simp (maxSteps := 2000000) (disch := first | omega | (simp only [next_new, next_put]; omega) | fail) only [go_sem, k36, k37, k2, k3]
  · obtain rfl : i = l.length := by omega
    have hd : decide (l.length < l.length) = false := by simp
    repeat' (with_reducible (first | refine vp_skip ?_ | refine vp_exit ?_ | refine vp_ret ?_ | refine vp_seq ?_ | refine vp_cond ?_ | refine vp_block ?_ | refine vp_dreg ?_ | refine vp_reg ?_ | simp (maxSteps := 2000000) (disch := first | omega | (simp only [next_new, next_put]; omega) | fail) only [go_sem, k36, k37, k2, k3, m2, m3, hd, e1, e2, oEp4]))
    exact kp
end Run
end Go.Abs
namespace Go.Abs
namespace Run
variable {E : Env} {T : Nat → FFn}
attribute [local go_sem] vr_mv vr_len vr_fa vr_nil vr_ext vr_not vr_ixs vr_sl vr_ld1 vr_ldN vr_st vr_alloc vr_box vr_mkmap vr_int vr_pick vr_build vr_buildSl vr_look vr_mk vr_app vr_sbin vr_fog vr_end vr_b2s vr_lens vr_slstr vr_cint vd_mv vd_fa vd_nil vd_ext vd_ixs vd_alloc vd_build vd_buildSl vd_ld1 vd_ldN vd_st vd_mset vd_app vd_int vd_end vd_cint vO_ok vD_ok vRd_ok vL_ok vB_t vB_f vG_t vG_f lseq_n lseq_r lseq_e kblk_n kblk_r kblk_e lfn_n lfn_r lloop_n lloop_e lloop_r sC_ok oFa_ptr oFa_ep oNil_ptr oNil_ep oLen_sl oLen_row oLen_nil oExt_0 oExt_1 oExt_2 okq_some oNot_bool oSl_nil rc_ptr rc_ep oRd oEp oLd1_some oLdN_some oSt oInt_int oPick_b oBuild_some oBuildSl_some ffill_nil oFill_some ffill patch oFind_some oFind_none oOne_some oTwo_some cfin_one cfin_two wanted_b wanted_u evs_nil evs_cons fargs_nil fargs_cons oLens_str oB2s_nil oApp_unf oApp_unil oSame_some readOk_loudS loudOk_rdS mem_cons loudT readT sames_one Option.map_some Option.map_none oCint_n cells_int cells_str cells_agg cells_sl cells_row cells_map cells_ptr cells_bool cells_nil one_nil one_cons one_int one_str one_sl one_row one_map one_ptr one_bool one_vnil deql dneq dlss dgtr dgeq iEq_n iLt_n iLe beq_dec blt_dec ble_dec mem_nil readOk_nil readOk_rd loudOk_nil loudOk_loud loudOk_none add_small List.drop_succ_cons List.drop_zero List.drop_nil List.take_succ_cons List.take_zero List.take_nil List.length_cons List.length_nil List.cons_append List.nil_append Nat.reduceAdd Nat.reduceEqDiff Nat.reduceLeDiff decide_true decide_false Bool.and_self Bool.and_true Bool.true_and Bool.not_true Bool.not_false cond_true cond_false true_and and_true Gt_St p0_eq kD_eq reduceIte Nat.add_zero Nat.zero_add Nat.reduceMul Nat.reduceSub Nat.reduceBEq List.map_cons List.map_nil next_new next_put hget_new_le hget_new_ne hget_put_same hget_put_ne
def v21 : FFn := ffn v_ss (fun t h => cfin ⟨[.cN 2 4], .skip⟩ (act t) h)
 (fseq (freg <| fo (falloc 42 [(.int .i64 (.ofNat 0)), (.int .u64 (.ofNat 0)), (.str []), (.v (.slice none 0 0))]) (St 2) <| fend)
 (fseq (freg <| fo (fmv (Gt 0)) (St 3) <| fo (fbuild [(.int .i64 (.ofNat 0)), (.int .u64 (.ofNat 0)), (.str []), (.v (.slice none 0 0))] [(0, 1, (kD (.int .i64 (.ofNat 2)))), (2, 1, (Gt 3))]) (St 4) <| fo (fst1 4 (Gt 2) (Gt 4)) p0 <| fend)
 fret))
def v26 : FFn := ffn v_ss (fun t h => cfin ⟨[.cN 2 4], .skip⟩ (act t) h)
 (fseq (freg <| fo (falloc 42 [(.int .i64 (.ofNat 0)), (.int .u64 (.ofNat 0)), (.str []), (.v (.slice none 0 0))]) (St 2) <| fend)
 (fseq (freg <| fo (fmv (Gt 0)) (St 3) <| fo (fbuild [(.int .i64 (.ofNat 0)), (.int .u64 (.ofNat 0)), (.str []), (.v (.slice none 0 0))] [(0, 1, (kD (.int .i64 (.ofNat 4)))), (3, 1, (Gt 3))]) (St 4) <| fo (fst1 4 (Gt 2) (Gt 4)) p0 <| fend)
 fret))
def v67 : FFn := ffn v_ss (fun t h => cfin ⟨[.cN 4 4], .skip⟩ (act t) h)
 (fseq (freg <| fo (falloc 42 [(.int .i64 (.ofNat 0)), (.int .u64 (.ofNat 0)), (.str []), (.v (.slice none 0 0))]) (St 4) <| fend)
 (fseq (freg <| fo (fmv (Gt 0)) (St 5) <| fo (fmv (Gt 1)) (St 6) <| fo (fcalls 21 [(Gt 6)]) (St 7) <| fo (fcalls 69 [(Gt 5), (Gt 7)]) (St 8) <| fo (fst1 4 (Gt 4) (Gt 8)) p0 <| fend)
 fret))
def v68 : FFn := ffn v_ss (fun t h => cfin ⟨[.cN 4 4], .skip⟩ (act t) h)
 (fseq (freg <| fo (falloc 71 [(.int .i64 (.ofNat 0)), (.int .u64 (.ofNat 0)), (.str []), (.v (.slice none 0 0))]) (St 4) <| fend)
 (fseq (freg <| fo (fmv (Gt 1)) (St 6) <| fo (fcalls 113 [(Gt 6)]) (St 7) <| fo (falloc 71 [(.int .i64 (.ofNat 0)), (.int .u64 (.ofNat 0)), (.str []), (.v (.slice none 0 0))]) (St 5) <| fo (fst1 4 (Gt 5) (Gt 7)) p0 <| fend)
 (fseq (freg <| fo (fmv (Gt 0)) (St 8) <| fo (fldN 4 (Gt 5)) (St 9) <| fo (fcalls 73 [(Gt 8), (Gt 9)]) (St 10) <| fo (fst1 4 (Gt 4) (Gt 10)) p0 <| fend)
 fret)))
def v69 : FFn := ffn v_ss (fun t h => cfin ⟨[.cN 4 4], .skip⟩ (act t) h)
 (fseq (freg <| fo (fbox 42 (Gt 1)) (St 3) <| fo (falloc 42 [(.int .i64 (.ofNat 0)), (.int .u64 (.ofNat 0)), (.str []), (.v (.slice none 0 0))]) (St 4) <| fend)
 (fseq (fdreg <| fdo (fbuild [(.int .i64 (.ofNat 0)), (.int .u64 (.ofNat 0)), (.str []), (.v (.slice none 0 0))] []) (St 5) <| fdo (fmv (Gt 0)) (St 6) <| fdl 2 [0] (fcalls 70 [(Gt 6)]) (St 7) <| fdr 3 [0, 1, 2] 4 (Gt 3) (fldN 4 (Gt 3)) (St 8) <| fdo (fbuild [(.int .i64 (.ofNat 0)), (.int .u64 (.ofNat 0)), (.str []), (.v (.slice none 0 0))] []) (St 9) <| fdo (fbuildSl 42 4 [(.int .i64 (.ofNat 0)), (.int .u64 (.ofNat 0)), (.str []), (.v (.slice none 0 0)), (.int .i64 (.ofNat 0)), (.int .u64 (.ofNat 0)), (.str []), (.v (.slice none 0 0)), (.int .i64 (.ofNat 0)), (.int .u64 (.ofNat 0)), (.str []), (.v (.slice none 0 0)), (.int .i64 (.ofNat 0)), (.int .u64 (.ofNat 0)), (.str []), (.v (.slice none 0 0))] [(0, 4, (Gt 5)), (4, 4, (Gt 7)), (8, 4, (Gt 8)), (12, 4, (Gt 9))]) (St 10) <| fdp 6 [] (fcalls 26 [(Gt 10)]) (St 11) <| fdl 7 [] (fst1 4 (Gt 4) (Gt 11)) p0 <| fdend)
 fret))
def v70 : FFn := ffn v_ss (fun t h => cfin ⟨[.cN 2 4], .skip⟩ (act t) h)
 (fseq (freg <| fo (falloc 42 [(.int .i64 (.ofNat 0)), (.int .u64 (.ofNat 0)), (.str []), (.v (.slice none 0 0))]) (St 2) <| fend)
 (fseq (freg <| fo (fmv (Gt 0)) (St 3) <| fo (fbuild [(.int .i64 (.ofNat 0)), (.int .u64 (.ofNat 0)), (.str []), (.v (.slice none 0 0))] [(0, 1, (kD (.int .i64 (.ofNat 1)))), (1, 1, (Gt 3))]) (St 4) <| fo (fst1 4 (Gt 2) (Gt 4)) p0 <| fend)
 fret))
def v71 : FFn := ffn v_ss (fun t h => cfin ⟨[.cN 2 4], .skip⟩ (act t) h)
 (fseq (freg <| fo (falloc 71 [(.int .i64 (.ofNat 0)), (.int .u64 (.ofNat 0)), (.str []), (.v (.slice none 0 0))]) (St 2) <| fend)
 (fseq (freg <| fo (fmv (Gt 0)) (St 3) <| fo (fbuild [(.int .i64 (.ofNat 0)), (.int .u64 (.ofNat 0)), (.str []), (.v (.slice none 0 0))] [(0, 1, (kD (.int .i64 (.ofNat 1)))), (1, 1, (Gt 3))]) (St 4) <| fo (fst1 4 (Gt 2) (Gt 4)) p0 <| fend)
 fret))
def v72 : FFn := ffn v_ss (fun t h => cfin ⟨[.cN 2 4], .skip⟩ (act t) h)
 (fseq (freg <| fo (falloc 71 [(.int .i64 (.ofNat 0)), (.int .u64 (.ofNat 0)), (.str []), (.v (.slice none 0 0))]) (St 2) <| fend)
 (fseq (freg <| fo (fmv (Gt 0)) (St 3) <| fo (fbuild [(.int .i64 (.ofNat 0)), (.int .u64 (.ofNat 0)), (.str []), (.v (.slice none 0 0))] [(0, 1, (kD (.int .i64 (.ofNat 4)))), (3, 1, (Gt 3))]) (St 4) <| fo (fst1 4 (Gt 2) (Gt 4)) p0 <| fend)
 fret))
def v73 : FFn := ffn v_ss (fun t h => cfin ⟨[.cN 4 4], .skip⟩ (act t) h)
 (fseq (freg <| fo (fbox 71 (Gt 1)) (St 3) <| fo (falloc 71 [(.int .i64 (.ofNat 0)), (.int .u64 (.ofNat 0)), (.str []), (.v (.slice none 0 0))]) (St 4) <| fend)
 (fseq (freg <| fo (fmv (Gt 0)) (St 6) <| fo (fcalls 71 [(Gt 6)]) (St 7) <| fo (falloc 71 [(.int .i64 (.ofNat 0)), (.int .u64 (.ofNat 0)), (.str []), (.v (.slice none 0 0))]) (St 5) <| fo (fst1 4 (Gt 5) (Gt 7)) p0 <| fend)
 (fseq (freg <| fo (fbuild [(.int .i64 (.ofNat 0)), (.int .u64 (.ofNat 0)), (.str []), (.v (.slice none 0 0))] []) (St 8) <| fo (fldN 4 (Gt 5)) (St 9) <| fo (fldN 4 (Gt 3)) (St 10) <| fo (fbuild [(.int .i64 (.ofNat 0)), (.int .u64 (.ofNat 0)), (.str []), (.v (.slice none 0 0))] []) (St 11) <| fo (fbuildSl 71 4 [(.int .i64 (.ofNat 0)), (.int .u64 (.ofNat 0)), (.str []), (.v (.slice none 0 0)), (.int .i64 (.ofNat 0)), (.int .u64 (.ofNat 0)), (.str []), (.v (.slice none 0 0)), (.int .i64 (.ofNat 0)), (.int .u64 (.ofNat 0)), (.str []), (.v (.slice none 0 0)), (.int .i64 (.ofNat 0)), (.int .u64 (.ofNat 0)), (.str []), (.v (.slice none 0 0))] [(0, 4, (Gt 8)), (4, 4, (Gt 9)), (8, 4, (Gt 10)), (12, 4, (Gt 11))]) (St 12) <| fo (fcalls 72 [(Gt 12)]) (St 13) <| fo (fst1 4 (Gt 4) (Gt 13)) p0 <| fend)
 fret)))
def v74 : FFn := ffn v_ss (fun t h => cfin ⟨[.cN 2 4], .skip⟩ (act t) h)
 (fseq (freg <| fo (falloc 42 [(.int .i64 (.ofNat 0)), (.int .u64 (.ofNat 0)), (.str []), (.v (.slice none 0 0))]) (St 2) <| fend)
 (fseq (freg <| fo (fmv (Gt 0)) (St 3) <| fo (fbuild [(.int .i64 (.ofNat 0)), (.int .u64 (.ofNat 0)), (.str []), (.v (.slice none 0 0))] [(0, 1, (kD (.int .i64 (.ofNat 3)))), (3, 1, (Gt 3))]) (St 4) <| fo (fst1 4 (Gt 2) (Gt 4)) p0 <| fend)
 fret))
def v75 : FFn := ffn v_ss (fun t h => cfin ⟨[.cN 2 4], .skip⟩ (act t) h)
 (fseq (freg <| fo (falloc 71 [(.int .i64 (.ofNat 0)), (.int .u64 (.ofNat 0)), (.str []), (.v (.slice none 0 0))]) (St 2) <| fend)
 (fseq (freg <| fo (fmv (Gt 0)) (St 3) <| fo (fbuild [(.int .i64 (.ofNat 0)), (.int .u64 (.ofNat 0)), (.str []), (.v (.slice none 0 0))] [(0, 1, (kD (.int .i64 (.ofNat 3)))), (3, 1, (Gt 3))]) (St 4) <| fo (fst1 4 (Gt 2) (Gt 4)) p0 <| fend)
 fret))
def v113 : FFn := ffn v_ss (fun t h => cfin ⟨[.cN 2 4], .skip⟩ (act t) h)
 (fseq (freg <| fo (falloc 71 [(.int .i64 (.ofNat 0)), (.int .u64 (.ofNat 0)), (.str []), (.v (.slice none 0 0))]) (St 2) <| fend)
 (fseq (freg <| fo (fmv (Gt 0)) (St 3) <| fo (fbuild [(.int .i64 (.ofNat 0)), (.int .u64 (.ofNat 0)), (.str []), (.v (.slice none 0 0))] [(0, 1, (kD (.int .i64 (.ofNat 2)))), (2, 1, (Gt 3))]) (St 4) <| fo (fst1 4 (Gt 2) (Gt 4)) p0 <| fend)
 fret))
abbrev nilS : D := .v (.slice none 0 0)
def zV : List D := [.int .i64 (.ofNat 0), .int .u64 (.ofNat 0), .str [], nilS]
theorem Kp.alloc_put {h : H} {a b : AObj} : Kp h (fput' (fnew h a) h.next b) := (Kp.new _).put (Nat.le_refl _) _
set_option maxHeartbeats 1000000 in
theorem vc70 (h70 : T 70 = v70) (n : Nat) (h : H) : VC E T 70 [.int .u64 (.ofNat n)] h (fun d h' => d = .agg [.int .i64 (.ofNat 1), .int .u64 (.ofNat n), .str [], nilS] ∧ Kp h h') noPan := by
  refine vc_fn h70 ?_
  unfold v_ss
  repeat' (with_reducible (first | refine vp_skip ?_ | refine vp_exit ?_ | refine vp_ret ?_ | refine vp_seq ?_ | refine vp_cond ?_ | refine vp_block ?_ | refine vp_dreg ?_ | refine vp_reg ?_ | simp (maxSteps := 2000000) (disch := first | omega | (simp only [next_new, next_put]; omega) | fail) only [go_sem]))
  first | exact ⟨rfl, Kp.alloc_put⟩ | exact Kp.alloc_put
set_option maxHeartbeats 1000000 in
theorem vc71 (h71 : T 71 = v71) (n : Nat) (h : H) : VC E T 71 [.int .u64 (.ofNat n)] h (fun d h' => d = .agg [.int .i64 (.ofNat 1), .int .u64 (.ofNat n), .str [], nilS] ∧ Kp h h') noPan := by
  refine vc_fn h71 ?_
  unfold v_ss
  repeat' (with_reducible (first | refine vp_skip ?_ | refine vp_exit ?_ | refine vp_ret ?_ | refine vp_seq ?_ | refine vp_cond ?_ | refine vp_block ?_ | refine vp_dreg ?_ | refine vp_reg ?_ | simp (maxSteps := 2000000) (disch := first | omega | (simp only [next_new, next_put]; omega) | fail) only [go_sem]))
  first | exact ⟨rfl, Kp.alloc_put⟩ | exact Kp.alloc_put
set_option maxHeartbeats 1000000 in
theorem vc21 (h21 : T 21 = v21) (b : List Nat) (h : H) : VC E T 21 [.str b] h (fun d h' => d = .agg [.int .i64 (.ofNat 2), .int .u64 (.ofNat 0), .str b, nilS] ∧ Kp h h') noPan := by
  refine vc_fn h21 ?_
  unfold v_ss
  repeat' (with_reducible (first | refine vp_skip ?_ | refine vp_exit ?_ | refine vp_ret ?_ | refine vp_seq ?_ | refine vp_cond ?_ | refine vp_block ?_ | refine vp_dreg ?_ | refine vp_reg ?_ | simp (maxSteps := 2000000) (disch := first | omega | (simp only [next_new, next_put]; omega) | fail) only [go_sem]))
  first | exact ⟨rfl, Kp.alloc_put⟩ | exact Kp.alloc_put
set_option maxHeartbeats 1000000 in
theorem vc113 (h113 : T 113 = v113) (b : List Nat) (h : H) : VC E T 113 [.str b] h (fun d h' => d = .agg [.int .i64 (.ofNat 2), .int .u64 (.ofNat 0), .str b, nilS] ∧ Kp h h') noPan := by
  refine vc_fn h113 ?_
  unfold v_ss
  repeat' (with_reducible (first | refine vp_skip ?_ | refine vp_exit ?_ | refine vp_ret ?_ | refine vp_seq ?_ | refine vp_cond ?_ | refine vp_block ?_ | refine vp_dreg ?_ | refine vp_reg ?_ | simp (maxSteps := 2000000) (disch := first | omega | (simp only [next_new, next_put]; omega) | fail) only [go_sem]))
  first | exact ⟨rfl, Kp.alloc_put⟩ | exact Kp.alloc_put
set_option maxHeartbeats 1000000 in
theorem vc26 (h26 : T 26 = v26) (id n : Nat) (cs : List D) (h : H) : VC E T 26 [.sl id n cs] h (fun d h' => d = .agg [.int .i64 (.ofNat 4), .int .u64 (.ofNat 0), .str [], .sl id n cs] ∧ Kp h h') noPan := by
  refine vc_fn h26 ?_
  unfold v_ss
  repeat' (with_reducible (first | refine vp_skip ?_ | refine vp_exit ?_ | refine vp_ret ?_ | refine vp_seq ?_ | refine vp_cond ?_ | refine vp_block ?_ | refine vp_dreg ?_ | refine vp_reg ?_ | simp (maxSteps := 2000000) (disch := first | omega | (simp only [next_new, next_put]; omega) | fail) only [go_sem]))
  first | exact ⟨rfl, Kp.alloc_put⟩ | exact Kp.alloc_put
set_option maxHeartbeats 1000000 in
theorem vc72 (h72 : T 72 = v72) (id n : Nat) (cs : List D) (h : H) : VC E T 72 [.sl id n cs] h (fun d h' => d = .agg [.int .i64 (.ofNat 4), .int .u64 (.ofNat 0), .str [], .sl id n cs] ∧ Kp h h') noPan := by
  refine vc_fn h72 ?_
  unfold v_ss
  repeat' (with_reducible (first | refine vp_skip ?_ | refine vp_exit ?_ | refine vp_ret ?_ | refine vp_seq ?_ | refine vp_cond ?_ | refine vp_block ?_ | refine vp_dreg ?_ | refine vp_reg ?_ | simp (maxSteps := 2000000) (disch := first | omega | (simp only [next_new, next_put]; omega) | fail) only [go_sem]))
  first | exact ⟨rfl, Kp.alloc_put⟩ | exact Kp.alloc_put
set_option maxHeartbeats 1000000 in
theorem vc74 (h74 : T 74 = v74) (id n : Nat) (cs : List D) (h : H) : VC E T 74 [.sl id n cs] h (fun d h' => d = .agg [.int .i64 (.ofNat 3), .int .u64 (.ofNat 0), .str [], .sl id n cs] ∧ Kp h h') noPan := by
  refine vc_fn h74 ?_
  unfold v_ss
  repeat' (with_reducible (first | refine vp_skip ?_ | refine vp_exit ?_ | refine vp_ret ?_ | refine vp_seq ?_ | refine vp_cond ?_ | refine vp_block ?_ | refine vp_dreg ?_ | refine vp_reg ?_ | simp (maxSteps := 2000000) (disch := first | omega | (simp only [next_new, next_put]; omega) | fail) only [go_sem]))
  first | exact ⟨rfl, Kp.alloc_put⟩ | exact Kp.alloc_put
set_option maxHeartbeats 1000000 in
theorem vc75 (h75 : T 75 = v75) (id n : Nat) (cs : List D) (h : H) : VC E T 75 [.sl id n cs] h (fun d h' => d = .agg [.int .i64 (.ofNat 3), .int .u64 (.ofNat 0), .str [], .sl id n cs] ∧ Kp h h') noPan := by
  refine vc_fn h75 ?_
  unfold v_ss
  repeat' (with_reducible (first | refine vp_skip ?_ | refine vp_exit ?_ | refine vp_ret ?_ | refine vp_seq ?_ | refine vp_cond ?_ | refine vp_block ?_ | refine vp_dreg ?_ | refine vp_reg ?_ | simp (maxSteps := 2000000) (disch := first | omega | (simp only [next_new, next_put]; omega) | fail) only [go_sem]))
  first | exact ⟨rfl, Kp.alloc_put⟩ | exact Kp.alloc_put
theorem sames_app : ∀ {xs ys : List D}, sames xs xs = true → sames ys ys = true → sames (xs ++ ys) (xs ++ ys) = true
  | [], ys, _, h => h
  | x :: xs, ys, h1, h2 => by
    simp only [sames, Bool.and_eq_true] at h1
    simp only [List.cons_append, sames, h1.1, Bool.true_and]
    exact sames_app h1.2 h2
theorem sames_flat : ∀ {cs : List (List D)}, (∀ c ∈ cs, sames c c = true) → sames cs.flatten cs.flatten = true
  | [], _ => rfl
  | c :: r, h => by
    rw [List.flatten_cons]
    exact sames_app (h c (List.mem_cons_self ..)) (sames_flat fun x hx => h x (List.mem_cons_of_mem _ hx))
theorem Rep.same {v : V} {c : List D} (h : Rep v c) : sames c c = true := by
  induction h with
  | mk hl hn hr ih =>
    rename_i k n b l L cs
    have hL : D.same L L = true := by
      rcases hl.2 with ⟨_, rfl⟩ | ⟨id, rfl⟩
      · rfl
      · have : sames cs.flatten cs.flatten = true := sames_flat fun c hc => by
          obtain ⟨i, hi, rfl⟩ := List.getElem_of_mem hc
          exact ih i (l[i]'(by omega)) _ (List.getElem?_eq_getElem (by omega)) (List.getElem?_eq_getElem hi)
        simp only [D.same, Nat.beq_refl, this, Bool.and_self]
    simp only [sames, D.same, hL, beqL_self, decide_true, Bool.and_self]
def chunkC (n : Nat) (a b c d : D) : List D := [.int .i64 (.ofNat 0), .int .u64 (.ofNat 0), .str [], nilS, .int .i64 (.ofNat 1), .int .u64 (.ofNat n), .str [], nilS, a, b, c, d, .int .i64 (.ofNat 0), .int .u64 (.ofNat 0), .str [], nilS]
set_option maxHeartbeats 2000000 in
theorem vc69 (h70 : T 70 = v70) (h26 : T 26 = v26) (h69 : T 69 = v69) (n : Nat) (a b c d : D) (hs : sames [a, b, c, d] [a, b, c, d] = true) (h : H) : VC E T 69 [.int .u64 (.ofNat n), .agg [a, b, c, d]] h (fun x h' => (∃ id, x = .agg [.int .i64 (.ofNat 4), .int .u64 (.ofNat 0), .str [], .sl id 4 (chunkC n a b c d)]) ∧ Kp h h') noPan := by
  refine vc_fn h69 ?_
  unfold v_ss
  repeat' (with_reducible (first | refine vp_skip ?_ | refine vp_exit ?_ | refine vp_ret ?_ | refine vp_seq ?_ | refine vp_cond ?_ | refine vp_block ?_ | refine vp_dreg ?_ | refine vp_reg ?_ | simp (maxSteps := 2000000) (disch := first | omega | (simp only [next_new, next_put]; omega) | fail) only [go_sem]))
  refine vd_call ?_
  simp only [go_sem]
  refine (vc70 h70 n _).mono ?_ (fun _ _ h => h.elim)
  rintro d h1 ⟨rfl, kp1⟩
  have m3 : hget h1.mem h.next = some (.cells 42 [a, b, c, d]) := (kp1.2 _ (by simp only [next_new, next_put]; omega)).trans (by simp (maxSteps := 2000000) (disch := first | omega | (simp only [next_new, next_put]; omega) | fail) only [go_sem])
  have m4 : hget h1.mem (h.next + 1) = some (.cells 42 zV) := (kp1.2 _ (by simp only [next_new, next_put]; omega)).trans (by simp (maxSteps := 2000000) (disch := first | omega | (simp only [next_new, next_put]; omega) | fail) only [go_sem, zV])
  have nx : h.next + 2 ≤ h1.next := kp1.1
  try refine And.intro (by simp) ?_
  repeat' (with_reducible (first | refine vp_skip ?_ | refine vp_exit ?_ | refine vp_ret ?_ | refine vp_seq ?_ | refine vp_cond ?_ | refine vp_block ?_ | refine vp_dreg ?_ | refine vp_reg ?_ | simp (maxSteps := 2000000) (disch := first | omega | (simp only [next_new, next_put]; omega) | fail) only [go_sem, m3, m4, hs, Bool.or_true]))
  refine vd_callp ?_
  simp only [go_sem]
  refine (vc26 h26 _ 4 _ _).mono ?_ (fun _ _ h => h.elim)
  rintro d h2 ⟨rfl, kp2⟩
  have m5 : hget h2.mem (h.next + 1) = some (.cells 42 zV) := (kp2.2 _ (by simp only [next_new, next_put]; omega)).trans (by simp (maxSteps := 2000000) (disch := first | omega | (simp only [next_new, next_put]; omega) | fail) only [go_sem, m4])
  have ny : h1.next + 1 ≤ h2.next := kp2.1
  repeat' (with_reducible (first | refine vp_skip ?_ | refine vp_exit ?_ | refine vp_ret ?_ | refine vp_seq ?_ | refine vp_cond ?_ | refine vp_block ?_ | refine vp_dreg ?_ | refine vp_reg ?_ | simp (maxSteps := 2000000) (disch := first | omega | (simp only [next_new, next_put]; omega) | fail) only [go_sem, m5, zV, Bool.true_or, Bool.or_true, Bool.false_or]))
  exact ⟨⟨_, rfl⟩, ((((Kp.new _).trans (Kp.new _)).trans kp1).trans ((Kp.new _).trans kp2)).put (by omega) _⟩
set_option maxHeartbeats 2000000 in
theorem vc73 (h71 : T 71 = v71) (h72 : T 72 = v72) (h73 : T 73 = v73) (n : Nat) (a b c d : D) (h : H) : VC E T 73 [.int .u64 (.ofNat n), .agg [a, b, c, d]] h (fun x h' => (∃ id, x = .agg [.int .i64 (.ofNat 4), .int .u64 (.ofNat 0), .str [], .sl id 4 (chunkC n a b c d)]) ∧ Kp h h') noPan := by
  refine vc_fn h73 ?_
  unfold v_ss
  repeat' (with_reducible (first | refine vp_skip ?_ | refine vp_exit ?_ | refine vp_ret ?_ | refine vp_seq ?_ | refine vp_cond ?_ | refine vp_block ?_ | refine vp_dreg ?_ | refine vp_reg ?_ | simp (maxSteps := 2000000) (disch := first | omega | (simp only [next_new, next_put]; omega) | fail) only [go_sem]))
  refine vr_call ?_
  simp only [go_sem]
  refine (vc71 h71 n _).mono ?_ (fun _ _ h => h.elim)
  rintro d h1 ⟨rfl, kp1⟩
  have nx : h.next + 2 ≤ h1.next := Nat.le_trans (by first | omega | (simp only [next_new, next_put]; omega)) kp1.1
  have m3 : hget h1.mem (h.next) = some (.cells 71 [a, b, c, d]) := (kp1.2 (h.next) (by first | omega | (simp only [next_new, next_put]; omega))).trans (by first | exact m3 | exact m4 | simp (maxSteps := 2000000) (disch := first | omega | (simp only [next_new, next_put]; omega) | fail) only [go_sem])
  have m4 : hget h1.mem (h.next + 1) = some (.cells 71 zV) := (kp1.2 (h.next + 1) (by first | omega | (simp only [next_new, next_put]; omega))).trans (by first | exact m3 | exact m4 | simp (maxSteps := 2000000) (disch := first | omega | (simp only [next_new, next_put]; omega) | fail) only [go_sem, zV])
  repeat' (with_reducible (first | refine vp_skip ?_ | refine vp_exit ?_ | refine vp_ret ?_ | refine vp_seq ?_ | refine vp_cond ?_ | refine vp_block ?_ | refine vp_dreg ?_ | refine vp_reg ?_ | simp (maxSteps := 2000000) (disch := first | omega | (simp only [next_new, next_put]; omega) | fail) only [go_sem, m3, m4]))
  refine vr_call ?_
  simp only [go_sem]
  refine (vc72 h72 _ 4 _ _).mono ?_ (fun _ _ h => h.elim)
  rintro d h2 ⟨rfl, kp2⟩
  have ny : h1.next + 1 ≤ h2.next := Nat.le_trans (by first | omega | (simp only [next_new, next_put]; omega)) kp2.1
  have m5 : hget h2.mem (h.next + 1) = some (.cells 71 zV) := (kp2.2 (h.next + 1) (by first | omega | (simp only [next_new, next_put]; omega))).trans (by first | exact m3 | exact m4 | simp (maxSteps := 2000000) (disch := first | omega | (simp only [next_new, next_put]; omega) | fail) only [go_sem, m4])
  repeat' (with_reducible (first | refine vp_skip ?_ | refine vp_exit ?_ | refine vp_ret ?_ | refine vp_seq ?_ | refine vp_cond ?_ | refine vp_block ?_ | refine vp_dreg ?_ | refine vp_reg ?_ | simp (maxSteps := 2000000) (disch := first | omega | (simp only [next_new, next_put]; omega) | fail) only [go_sem, m5, zV]))
  exact ⟨⟨_, rfl⟩, ((((Kp.new _).trans (Kp.new _)).trans kp1).trans (((Kp.new _).put (Nat.le_refl _) _).trans ((Kp.new _).trans kp2))).put (by omega) _⟩
def dataC (b : List Nat) (n : Nat) : List D := chunkC n (.int .i64 (.ofNat 2)) (.int .u64 (.ofNat 0)) (.str b) nilS
theorem same_data (b : List Nat) : sames [.int .i64 (.ofNat 2), .int .u64 (.ofNat 0), .str b, nilS] [.int .i64 (.ofNat 2), .int .u64 (.ofNat 0), .str b, nilS] = true := by
  simp only [sames, D.same, beqL_self, decide_true, Bool.and_self]
  rfl
set_option maxHeartbeats 2000000 in
theorem vc67 (h70 : T 70 = v70) (h26 : T 26 = v26) (h69 : T 69 = v69) (h21 : T 21 = v21) (h67 : T 67 = v67) (n : Nat) (b : List Nat) (h : H) : VC E T 67 [.int .u64 (.ofNat n), .str b] h (fun x h' => (∃ id, x = .agg [.int .i64 (.ofNat 4), .int .u64 (.ofNat 0), .str [], .sl id 4 (dataC b n)]) ∧ Kp h h') noPan := by
  refine vc_fn h67 ?_
  unfold v_ss
  repeat' (with_reducible (first | refine vp_skip ?_ | refine vp_exit ?_ | refine vp_ret ?_ | refine vp_seq ?_ | refine vp_cond ?_ | refine vp_block ?_ | refine vp_dreg ?_ | refine vp_reg ?_ | simp (maxSteps := 2000000) (disch := first | omega | (simp only [next_new, next_put]; omega) | fail) only [go_sem]))
  refine vr_call ?_
  simp only [go_sem]
  refine (vc21 h21 b _).mono ?_ (fun _ _ h => h.elim)
  rintro d h1 ⟨rfl, kp1⟩
  have nx : h.next + 1 ≤ h1.next := Nat.le_trans (by first | omega | (simp only [next_new, next_put]; omega)) kp1.1
  have m3 : hget h1.mem (h.next) = some (.cells 42 zV) := (kp1.2 (h.next) (by first | omega | (simp only [next_new, next_put]; omega))).trans (by first | exact m3 | exact m4 | simp (maxSteps := 2000000) (disch := first | omega | (simp only [next_new, next_put]; omega) | fail) only [go_sem, zV])
  repeat' (with_reducible (first | refine vp_skip ?_ | refine vp_exit ?_ | refine vp_ret ?_ | refine vp_seq ?_ | refine vp_cond ?_ | refine vp_block ?_ | refine vp_dreg ?_ | refine vp_reg ?_ | simp (maxSteps := 2000000) (disch := first | omega | (simp only [next_new, next_put]; omega) | fail) only [go_sem, m3]))
  refine vr_call ?_
  simp only [go_sem]
  refine (vc69 h70 h26 h69 n _ _ _ _ (same_data b) _).mono ?_ (fun _ _ h => h.elim)
  rintro d h2 ⟨⟨id, rfl⟩, kp2⟩
  have ny : h1.next ≤ h2.next := Nat.le_trans (by first | omega | (simp only [next_new, next_put]; omega)) kp2.1
  have m5 : hget h2.mem (h.next) = some (.cells 42 zV) := (kp2.2 (h.next) (by first | omega | (simp only [next_new, next_put]; omega))).trans (by first | exact m3 | exact m4 | simp (maxSteps := 2000000) (disch := first | omega | (simp only [next_new, next_put]; omega) | fail) only [go_sem, m3])
  repeat' (with_reducible (first | refine vp_skip ?_ | refine vp_exit ?_ | refine vp_ret ?_ | refine vp_seq ?_ | refine vp_cond ?_ | refine vp_block ?_ | refine vp_dreg ?_ | refine vp_reg ?_ | simp (maxSteps := 2000000) (disch := first | omega | (simp only [next_new, next_put]; omega) | fail) only [go_sem, m5, zV]))
  exact ⟨⟨_, rfl⟩, (((Kp.new _).trans kp1).trans kp2).put (Nat.le_refl _) _⟩
set_option maxHeartbeats 2000000 in
theorem vc68 (h71 : T 71 = v71) (h72 : T 72 = v72) (h73 : T 73 = v73) (h113 : T 113 = v113) (h68 : T 68 = v68) (n : Nat) (b : List Nat) (h : H) : VC E T 68 [.int .u64 (.ofNat n), .str b] h (fun x h' => (∃ id, x = .agg [.int .i64 (.ofNat 4), .int .u64 (.ofNat 0), .str [], .sl id 4 (dataC b n)]) ∧ Kp h h') noPan := by
  refine vc_fn h68 ?_
  unfold v_ss
  repeat' (with_reducible (first | refine vp_skip ?_ | refine vp_exit ?_ | refine vp_ret ?_ | refine vp_seq ?_ | refine vp_cond ?_ | refine vp_block ?_ | refine vp_dreg ?_ | refine vp_reg ?_ | simp (maxSteps := 2000000) (disch := first | omega | (simp only [next_new, next_put]; omega) | fail) only [go_sem]))
  refine vr_call ?_
  simp only [go_sem]
  refine (vc113 h113 b _).mono ?_ (fun _ _ h => h.elim)
  rintro d h1 ⟨rfl, kp1⟩
  have nx : h.next + 1 ≤ h1.next := Nat.le_trans (by first | omega | (simp only [next_new, next_put]; omega)) kp1.1
  have m3 : hget h1.mem (h.next) = some (.cells 71 zV) := (kp1.2 (h.next) (by first | omega | (simp only [next_new, next_put]; omega))).trans (by first | exact m3 | exact m4 | simp (maxSteps := 2000000) (disch := first | omega | (simp only [next_new, next_put]; omega) | fail) only [go_sem, zV])
  repeat' (with_reducible (first | refine vp_skip ?_ | refine vp_exit ?_ | refine vp_ret ?_ | refine vp_seq ?_ | refine vp_cond ?_ | refine vp_block ?_ | refine vp_dreg ?_ | refine vp_reg ?_ | simp (maxSteps := 2000000) (disch := first | omega | (simp only [next_new, next_put]; omega) | fail) only [go_sem, m3]))
  refine vr_call ?_
  simp only [go_sem]
  refine (vc73 h71 h72 h73 n _ _ _ _ _).mono ?_ (fun _ _ h => h.elim)
  rintro d h2 ⟨⟨id, rfl⟩, kp2⟩
  have ny : h1.next + 1 ≤ h2.next := Nat.le_trans (by first | omega | (simp only [next_new, next_put]; omega)) kp2.1
  have m5 : hget h2.mem (h.next) = some (.cells 71 zV) := (kp2.2 (h.next) (by first | omega | (simp only [next_new, next_put]; omega))).trans (by first | exact m3 | exact m4 | simp (maxSteps := 2000000) (disch := first | omega | (simp only [next_new, next_put]; omega) | fail) only [go_sem, m3])
  repeat' (with_reducible (first | refine vp_skip ?_ | refine vp_exit ?_ | refine vp_ret ?_ | refine vp_seq ?_ | refine vp_cond ?_ | refine vp_block ?_ | refine vp_dreg ?_ | refine vp_reg ?_ | simp (maxSteps := 2000000) (disch := first | omega | (simp only [next_new, next_put]; omega) | fail) only [go_sem, m5, zV]))
  exact ⟨⟨_, rfl⟩, ((((Kp.new _).trans kp1).trans ((Kp.new _).put (Nat.le_refl _) _)).trans kp2).put (Nat.le_refl _) _⟩
end Run
end Go.Abs
