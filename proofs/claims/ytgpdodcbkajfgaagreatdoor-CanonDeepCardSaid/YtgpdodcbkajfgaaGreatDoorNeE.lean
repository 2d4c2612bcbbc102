/- How fields are derived, and constants: walks of the program. -/
import Derived.Test.YtgpdodcbkajfgaaGreatDoorNeA
import Derived.Test.YtgpdodcbkajfgaaGreatDoorNeW
import Derived.Test.YtgpdodcbkajfgaaGreatDoorNeC
set_option linter.unusedVariables false
set_option linter.unusedSimpArgs false
namespace Go.Abs
namespace Run
variable {E : Env} {T : Nat → FFn}
set_option maxHeartbeats 4000000
set_option maxRecDepth 100000
attribute [local go_sem] vr_mv vr_len vr_fa vr_nil vr_ext vr_not vr_ixs vr_sl vr_ld1 vr_ldN vr_st vr_alloc vr_box vr_mkmap vr_int vr_pick vr_build Wd vr_look vr_mk vr_app vr_sbin vr_fog vr_end vr_b2s vr_lens vr_slstr vr_cint vr_fld vr_iface vr_panic vr_mkf vr_idxs vr_idxa vd_mv vd_fa vd_nil vd_ext vd_ixs vd_alloc vd_build We vd_ld1 vd_ldN vd_st vd_mset vd_app vd_int vd_end vd_cint vd_fld vd_mkf vd_fdg vd_not vd_pick vd_len vd_lens vd_box vd_sbin vd_idxs vO_ok vO_pan vD_ok vRd_ok vL_ok vB_t vB_f vG_t vG_f vDg_t vDg_f lseq_n lseq_r lseq_e kblk_n kblk_r kblk_e lfn_n lfn_r lloop_n lloop_e lloop_r sC_ok lroll_n lroll_e lroll_r oFa_ptr oFa_ep oNil_ptr oNil_ep oLen_sl oLen_row oLen_nil oExt_0 oExt_1 oExt_2 okq_some oNot_bool oSl_nil rc_ptr rc_ep oRd_c oEp oLd1_some oLdN_some oStw_eq oStw_c oInt_int oPick_b XO Xj ffill_nil oFill_some ffill patch oFind_some oFind_none oOne_some oTwo_some cfin_one cfin_two wanted_t wanted_f wanted_u evs_nil evs_cons fargs_nil fargs_cons oLens_str oB2s_nil oApp_unf oApp_unil oSame_some Xv loudOk_rdS mem_cons loudT readT sames_one Option.map_some Option.map_none oCint_n oHd_cons oAg_some oFld_agg oPan_i oEq_str oNe_strs oIdxa_f oPart_some oAdd_str cells_int cells_str cells_agg cells_sl cells_row cells_map cells_ptr cells_bool cells_nil one_nil one_cons one_int one_str one_sl one_row one_map one_ptr one_bool one_vnil Yc dneq dlss dleq dgtr W9 iEq_n iLt_n iLe XY blt_dec ble_dec mem_nil readOk_nil readOk_rd loudOk_nil XP Xt add_small sub_small beqL_dec List.drop_succ_cons List.drop_zero List.drop_nil List.take_succ_cons List.take_zero List.take_nil List.length_cons List.length_nil List.length_append List.cons_append List.nil_append Nat.reduceAdd Nat.reduceEqDiff Nat.reduceLeDiff Nat.reduceLT List.cons.injEq reduceCtorEq eq_self not_true_eq_false not_false_eq_true and_false false_and true_or or_true decide_true decide_false Bool.and_self Bool.and_true Bool.true_and Bool.true_or Bool.or_true Bool.false_or Bool.or_false Bool.false_and Bool.and_false Bool.not_true Bool.not_false cond_true cond_false true_and and_true Gt_St p0_eq kD_eq reduceIte Nat.add_zero Nat.zero_add Nat.add_sub_cancel Nat.reduceMul Nat.reduceSub Nat.reduceBEq List.map_cons List.map_nil Z4 Z3 XR YA X7 Yi vCd_func vCd_v Zf YN Yw same_nil same_ptr Xd Xn YS tokC atF_some ZN ZD Zu
section
def q157 : FFn := ffn ZV (fun t h => .ok (.tup []) h)
 (Z0 (Zb 0 (Z0 (Z1 <| mM 0 7 <| mK 118 [(Gt 7), (kS [115, 105, 122, 101, 111, 102])] 8 <| mM 8 6 <| Z2)
 (Z6 (Gt 6) (Z1 <| mM 1 9 <| mN 9 10 <| mF 2 10 11 <| mS 11 (kI 1) <| Z2) (Z0 (Z1 <| mM 0 13 <| mK 118 [(Gt 13), (kS [99, 111, 117, 110, 116, 111, 102])] 14 <| mM 14 12 <| Z2)
 (Z6 (Gt 12) (Z1 <| mM 1 15 <| mN 15 16 <| mF 2 16 17 <| mS 17 (kI 2) <| Z2) (Z0 (Z1 <| mM 0 19 <| mK 118 [(Gt 19), (kS [99, 114, 99, 51, 50])] 20 <| mM 20 18 <| Z2)
 (Z6 (Gt 18) (Z1 <| mM 1 21 <| mN 21 22 <| mF 2 22 23 <| mS 23 (kI 3) <| Z2) (Z0 (Z1 <| mM 0 25 <| mK 118 [(Gt 25), (kS [97, 100, 108, 101, 114, 51, 50])] 26 <| mM 26 24 <| Z2)
 (Z6 (Gt 24) (Z1 <| mM 1 27 <| mN 27 28 <| mF 2 28 29 <| mS 29 (kI 4) <| Z2) (Z1 <| mM 0 4 <| mK 79 [(Gt 4), (kI 4)] 5 <| Z2))))))))))
 (Z0 (Z1 <| mM 0 30 <| mK 115 [(Gt 30), (kS [40])] 31 <| Z2)
 (Z0 (Z1 <| mM 1 32 <| mM 0 33 <| mK 116 [(Gt 33)] 34 <| mN 32 35 <| mF 3 35 36 <| mS 36 (Gt 34) <| Z2)
 (Z0 (Z0 (Z1 <| mM 1 37 <| mN 37 38 <| mF 2 38 39 <| mL 39 40 <| fo (mQ 109 40 3) (St 41) <| mM 41 42 <| fog (Gt 42) false (fmv (Gt 1)) (St 43) <| fog (Gt 42) false (u1 ZJ (Gt 43)) (St 44) <| fog (Gt 42) false (u1 (YC 2) (Gt 44)) (St 45) <| fog (Gt 42) false (Zh (Gt 45)) (St 46) <| fog (Gt 42) false (mQ 109 46 4) (St 47) <| fo (ZO (Gt 42) (kD (.v (.bool true))) (Gt 47)) (St 48) <| Z2)
 (Z6 (Gt 48) (Z0 (Z1 <| mM 0 49 <| mK 115 [(Gt 49), (kS [46, 46])] 50 <| Z2)
 (Z1 <| mM 1 51 <| mM 0 52 <| mK 116 [(Gt 52)] 53 <| mN 51 54 <| mF 4 54 55 <| mS 55 (Gt 53) <| Z2)) Z9))
 (Z1 <| mM 0 56 <| mK 115 [(Gt 56), (kS [41])] 57 <| Z2)))))
def q75 : FFn := ffn ZV (fun t h => YR ⟨[.cN 2 2], .skip⟩ (act t) h)
 (Z0 (Z1 <| fo (Zr 177 [(.str []), (.int .u64 (.ofNat 0))]) (St 2) <| Z2)
 (Z0 (Z1 <| mM 0 4 <| mK 115 [(Gt 4), (kS [99, 111, 110, 115, 116])] 5 <| Z2)
 (Z0 (Z1 <| mM 0 6 <| mK 116 [(Gt 6)] 7 <| fo (ZR [(.str []), (.int .u64 (.ofNat 0))] [(0, 1, (Gt 7))]) (St 8) <| fo (Zr 177 [(.str []), (.int .u64 (.ofNat 0))]) (St 3) <| fo (ZE 2 (Gt 3) (Gt 8)) p0 <| Z2)
 (Z0 (Z1 <| mM 0 9 <| mK 115 [(Gt 9), (kS [61])] 10 <| Z2)
 (Z0 (Z1 <| mM 0 11 <| mK 117 [(Gt 11)] 12 <| mF 1 3 13 <| mS 13 (Gt 12) <| Z2)
 (Z0 (Z1 <| mM 0 14 <| mK 115 [(Gt 14), (kS [59])] 15 <| Z2)
 (Z0 (Z1 <| fo (ZT 2 (Gt 3)) (St 16) <| fo (ZE 2 (Gt 2) (Gt 16)) p0 <| Z2)
 Ze)))))))
variable {tk : D} {l : List Tok} {lp : Nat} {h : H} {Q : D → H → Prop} {R : Pan}
section
variable (l : List Tok)
def derTail (d i : Nat) : Res (Nat × List Nat × List Nat × Nat) :=
  if isT (Zp l i) [40] then
    if isN (Zp l (i + 1)) then
      if d = 3 ∨ d = 4 then
        if isT (Zp l (i + 2)) [46, 46] then
          if isN (Zp l (i + 3)) then
            if isT (Zp l (i + 4)) [41] then .ok (d, (Zp l (i + 1)).s, (Zp l (i + 3)).s, i + 5) else .err (i + 4) 4
          else .err (i + 3) 4
        else .err (i + 2) 4
      else if isT (Zp l (i + 2)) [41] then .ok (d, (Zp l (i + 1)).s, [], i + 3) else .err (i + 2) 4
    else .err (i + 1) 4
  else .err i 4
def derivedS (i : Nat) : Res (Nat × List Nat × List Nat × Nat) :=
  if isT (Zp l i) [115, 105, 122, 101, 111, 102] then derTail l 1 (i + 1)
  else if isT (Zp l i) [99, 111, 117, 110, 116, 111, 102] then derTail l 2 (i + 1)
  else if isT (Zp l i) [99, 114, 99, 51, 50] then derTail l 3 (i + 1)
  else if isT (Zp l i) [97, 100, 108, 101, 114, 51, 50] then derTail l 4 (i + 1)
  else .err i 4
def constS (i : Nat) : Res (List Nat × Nat × Nat) :=
  if isT (Zp l i) [99, 111, 110, 115, 116] then
    if isN (Zp l (i + 1)) then
      if isT (Zp l (i + 2)) [61] then
        if (Zp l (i + 3)).k = 1 then
          if isT (Zp l (i + 4)) [59] then .ok ((Zp l (i + 1)).s, (Zp l (i + 3)).n, i + 5) else .err (i + 4) 4
        else .err (i + 3) 4
      else .err (i + 2) 4
    else .err (i + 1) 4
  else .err i 4
end
def atI (o : Option AObj) (F : List Nat → Int → Prop) : Prop := ∃ nm ty, o = some (.cells 112 [.str nm, .int .i64 ty, .int .i64 (.ofNat 0), .str [], .str [], .int .i64 (.negSucc 0), .int .i64 (.ofNat 0), .v (.bool false), .v (.slice none 0 0)]) ∧ F nm ty
theorem atI_some {nm : List Nat} {ty : Int} {F : List Nat → Int → Prop} : atI (some (.cells 112 [.str nm, .int .i64 ty, .int .i64 (.ofNat 0), .str [], .str [], .int .i64 (.negSucc 0), .int .i64 (.ofNat 0), .v (.bool false), .v (.slice none 0 0)])) F ↔ F nm ty := by
  constructor
  · rintro ⟨a, b, he, hf⟩
    simp only [Option.some.injEq, AObj.cells.injEq, List.cons.injEq, D.str.injEq, D.int.injEq, and_true, true_and] at he
    obtain ⟨rfl, rfl⟩ := he
    exact hf
  · intro hf
    exact ⟨nm, ty, rfl, hf⟩
attribute [local go_sem] atI_some
theorem vc157 (h77 : T 78 = q77) (h78 : T 79 = q78) (h73 : T 74 = q73) (h114 : T 115 = q114) (h117 : T 118 = q117) (h208 : T 209 = XJ) (h155 : T 156 = XL) (h154 : T 155 = XX) (h118 : T 119 = W1) (h115 : T 116 = q115) (h116 : T 117 = q116) (h257 : T 258 = q257) (h258 : T 259 = q258) (h261 : T 262 = q261) (h157 : T 158 = q157) (tks : Toks tk l) {lx : Nat} (hq : atP tk l (Zg h.mem lp) lp h.next fun i dep lf => (lx ≠ lp ∧ lx < h.next) ∧ atI (Zg h.mem lx) fun nm ty => RES (derivedS l i)
      (fun a => ∀ h', (i < a.2.2.2 ∧ a.2.2.2 < l.length) → h.next ≤ h'.next → (∀ l : Nat, l < h.next → l ≠ lp → l ≠ lx → Zg h'.mem l = Zg h.mem l) → Zg h'.mem lp = some (.cells 129 [tk, .int .i64 (.ofNat a.2.2.2), .int .i64 (.ofNat dep), .ptr lf 0]) → Zg h'.mem lx = some (.cells 112 [.str nm, .int .i64 ty, .int .i64 (.ofNat a.1), .str a.2.1, .str a.2.2.1, .int .i64 (.negSucc 0), .int .i64 (.ofNat 0), .v (.bool false), .v (.slice none 0 0)]) → Q (.tup []) h')
      (fun j e => ∀ h', j < l.length → h.next ≤ h'.next → (∀ l : Nat, l < h.next → l ≠ lp → l ≠ lx → Zg h'.mem l = Zg h.mem l) → R (fault3 (Zp l j) e) h')) : VC E T 158 [.ptr lp 0, .ptr lx 0] h Q R := by
  obtain ⟨i, dep, lf, hm, ⟨hi, hn⟩, ⟨n1, n2⟩, nm, ty, hx, hk⟩ := hq
  have hsm := tks.small
  refine Ya h157 ?_
  unfold ZV
  repeat' (with_reducible (first | refine Zk ?_ | refine Zl ?_ | refine ZG ?_ | refine ZF ?_ | refine Zn ?_ | refine Zd ?_ | refine Zm ?_ | refine ZH ?_ | refine Zy ?_ | refine Zi ?_ | refine Zz ?_ | refine vc117 h77 h73 h117 tks ?_ | refine vc114 h77 h78 h73 h114 tks ?_ | refine vc115 h77 h78 h208 h155 h154 h118 h115 tks ?_ | refine vc78 h77 h78 tks ?_ | simp (maxSteps := 2000000) (disch := first | assumption | omega | fail) only [go_sem, -Int.reduceOfNat, *, ZV] | ((first | refine ZL ?_ ?_ | refine ZC ?_ ?_ | refine ZK ?_ ?_ | refine ZA ?_ ?_ | refine ZB ?_ ?_ | refine Zj ?_ ?_) <;> intro _) | (show Q _ _; simp only [derivedS, derTail, ZN, if_true, if_false, eq_self, Nat.reduceEqDiff, reduceCtorEq, true_or, or_true, or_self, false_or, or_false, not_true_eq_false, not_false_eq_true, and_true, true_and, and_false, false_and, *] at hk; refine hk _ ?_ ?_ ?_ ?_ ?_) | (show R _ _; simp only [derivedS, derTail, ZD, if_true, if_false, eq_self, Nat.reduceEqDiff, reduceCtorEq, true_or, or_true, or_self, false_or, or_false, not_true_eq_false, not_false_eq_true, and_true, true_and, and_false, false_and, *] at hk; refine hk _ ?_ ?_ ?_) | (show False; simp only [derivedS, derTail, Zu, if_true, if_false, eq_self, Nat.reduceEqDiff, reduceCtorEq, true_or, or_true, or_self, false_or, or_false, not_true_eq_false, not_false_eq_true, and_true, true_and, and_false, false_and, *] at hk) | (refine Yl ?_ ?_ ?_) | (refine ZP ?_ ?_ ?_) | refine And.intro ?_ ?_ | (refine ZX (by assumption) ?_) | exact ZW.refl | (refine ZW.trans (by assumption) (by first | omega | (simp only [Z4, Z3]; omega)) ?_) | exact W5 | exact X6 | exact Y9 | (refine W6 (by assumption) (by assumption) (by first | omega | (simp only [Z4, Z3]; omega)) ?_) | (refine W0 (by assumption) (by assumption) (by first | omega | (simp only [Z4, Z3]; omega)) ?_) | (refine ⟨_, YU, ?_⟩) | (refine ⟨_, by assumption, ?_⟩) | (refine Tp.mono (by assumption) ?_ (fun _ _ _ => ?_)) | assumption | (show _ < _; omega) | (show _ ≤ _; omega) | (show (_ : Nat) ≠ _; omega) | (show ¬ (_ : Nat) = _; omega) | (show (_ : Nat) = _; omega) | (intro _; intros) | (exact False.elim (by assumption)) | fail))
  all_goals trace_state
theorem vc75 (h77 : T 78 = q77) (h78 : T 79 = q78) (h73 : T 74 = q73) (h114 : T 115 = q114) (h117 : T 118 = q117) (h208 : T 209 = XJ) (h155 : T 156 = XL) (h154 : T 155 = XX) (h118 : T 119 = W1) (h115 : T 116 = q115) (h116 : T 117 = q116) (h257 : T 258 = q257) (h258 : T 259 = q258) (h261 : T 262 = q261) (h75 : T 76 = q75) (tks : Toks tk l) (hq : atP tk l (Zg h.mem lp) lp h.next fun i dep lf => RES (constS l i)
      (fun a => ∀ h', (i < a.2.2 ∧ a.2.2 < l.length) → h.next ≤ h'.next → (∀ l : Nat, l < h.next → l ≠ lp → Zg h'.mem l = Zg h.mem l) → Zg h'.mem lp = some (.cells 129 [tk, .int .i64 (.ofNat a.2.2), .int .i64 (.ofNat dep), .ptr lf 0]) → Q (.agg [.str a.1, .int .u64 (.ofNat a.2.1)]) h')
      (fun j e => ∀ h', j < l.length → h.next ≤ h'.next → (∀ l : Nat, l < h.next → l ≠ lp → Zg h'.mem l = Zg h.mem l) → R (fault3 (Zp l j) e) h')) : VC E T 76 [.ptr lp 0] h Q R := by
  obtain ⟨i, dep, lf, hm, ⟨hi, hn⟩, hk⟩ := hq
  have hsm := tks.small
  refine Ya h75 ?_
  unfold ZV
  repeat' (with_reducible (first | refine Zk ?_ | refine Zl ?_ | refine ZG ?_ | refine ZF ?_ | refine Zn ?_ | refine Zd ?_ | refine Zm ?_ | refine ZH ?_ | refine Zy ?_ | refine Zi ?_ | refine Zz ?_ | refine vc117 h77 h73 h117 tks ?_ | refine vc114 h77 h78 h73 h114 tks ?_ | refine vc115 h77 h78 h208 h155 h154 h118 h115 tks ?_ | refine vc116 h77 h78 h116 tks ?_ | refine vc78 h77 h78 tks ?_ | simp (maxSteps := 2000000) (disch := first | assumption | omega | fail) only [go_sem, -Int.reduceOfNat, *, ZV] | ((first | refine ZL ?_ ?_ | refine ZC ?_ ?_ | refine ZK ?_ ?_ | refine ZA ?_ ?_ | refine ZB ?_ ?_ | refine Zj ?_ ?_) <;> intro _) | (show Q _ _; simp only [constS, ZN, if_true, if_false, eq_self, Nat.reduceEqDiff, reduceCtorEq, true_or, or_true, or_self, false_or, or_false, not_true_eq_false, not_false_eq_true, and_true, true_and, and_false, false_and, *] at hk; refine hk _ ?_ ?_ ?_ ?_) | (show R _ _; simp only [constS, ZD, if_true, if_false, eq_self, Nat.reduceEqDiff, reduceCtorEq, true_or, or_true, or_self, false_or, or_false, not_true_eq_false, not_false_eq_true, and_true, true_and, and_false, false_and, *] at hk; refine hk _ ?_ ?_ ?_) | (show False; simp only [constS, Zu, if_true, if_false, eq_self, Nat.reduceEqDiff, reduceCtorEq, true_or, or_true, or_self, false_or, or_false, not_true_eq_false, not_false_eq_true, and_true, true_and, and_false, false_and, *] at hk) | (refine Yl ?_ ?_ ?_) | (refine ZP ?_ ?_ ?_) | refine And.intro ?_ ?_ | (refine ZX (by assumption) ?_) | exact ZW.refl | (refine ZW.trans (by assumption) (by first | omega | (simp only [Z4, Z3]; omega)) ?_) | exact W5 | exact X6 | exact Y9 | (refine W6 (by assumption) (by assumption) (by first | omega | (simp only [Z4, Z3]; omega)) ?_) | (refine W0 (by assumption) (by assumption) (by first | omega | (simp only [Z4, Z3]; omega)) ?_) | (refine ⟨_, YU, ?_⟩) | (refine ⟨_, by assumption, ?_⟩) | (refine Tp.mono (by assumption) ?_ (fun _ _ _ => ?_)) | assumption | (show _ < _; omega) | (show _ ≤ _; omega) | (show (_ : Nat) ≠ _; omega) | (show ¬ (_ : Nat) = _; omega) | (show (_ : Nat) = _; omega) | (intro _; intros) | (exact False.elim (by assumption)) | fail))
  all_goals trace_state
end
section
attribute [local go_sem] atI_some
def q120 : FFn := ffn ZV (fun t h => YR ⟨[.cN 2 9], .skip⟩ (act t) h)
 (Z0 (Z1 <| fo (Zr 112 [(.str []), (.int .i64 (.ofNat 0)), (.int .i64 (.ofNat 0)), (.str []), (.str []), (.int .i64 (.ofNat 0)), (.int .i64 (.ofNat 0)), (.v (.bool false)), (.v (.slice none 0 0))]) (St 2) <| Z2)
 (Z0 (Z1 <| mM 0 4 <| mK 116 [(Gt 4)] 5 <| fo (ZR [(.str []), (.int .i64 (.ofNat 0)), (.int .i64 (.ofNat 0)), (.str []), (.str []), (.int .i64 (.ofNat 0)), (.int .i64 (.ofNat 0)), (.v (.bool false)), (.v (.slice none 0 0))] [(0, 1, (Gt 5)), (5, 1, (kD (.int .i64 (.negSucc 0))))]) (St 6) <| fo (Zr 112 [(.str []), (.int .i64 (.ofNat 0)), (.int .i64 (.ofNat 0)), (.str []), (.str []), (.int .i64 (.ofNat 0)), (.int .i64 (.ofNat 0)), (.v (.bool false)), (.v (.slice none 0 0))]) (St 3) <| fo (ZE 9 (Gt 3) (Gt 6)) p0 <| Z2)
 (Z0 (Z1 <| mM 0 7 <| mK 115 [(Gt 7), (kS [58])] 8 <| Z2)
 (Z0 (Z1 <| mM 0 9 <| mK 157 [(Gt 9)] 10 <| mF 1 3 11 <| mS 11 (Gt 10) <| Z2)
 (Z0 (Z0 (Z1 <| mM 0 12 <| mK 118 [(Gt 12), (kS [61])] 13 <| Z2)
 (Z6 (Gt 13) (Z1 <| mM 0 14 <| mK 158 [(Gt 14), (Gt 3)] 15 <| Z2) Z9))
 (Z0 (Z0 (Z1 <| mM 0 16 <| mK 118 [(Gt 16), (kS [119, 104, 101, 114, 101])] 17 <| Z2)
 (Z6 (Gt 17) (Z1 <| mM 0 18 <| mK 159 [(Gt 18)] 19 <| mF 5 3 20 <| mS 20 (Gt 19) <| Z2) Z9))
 (Z0 (Z1 <| mM 0 21 <| mK 115 [(Gt 21), (kS [59])] 22 <| Z2)
 (Z0 (Z1 <| fo (ZT 9 (Gt 3)) (St 23) <| fo (ZE 9 (Gt 2) (Gt 23)) p0 <| Z2)
 Ze))))))))
variable {tk : D} {l : List Tok} {lp : Nat} {h : H} {Q : D → H → Prop} {R : Pan}
structure Sb where
  name : List Nat
  bits : Nat
  deriving Inhabited
structure It where
  name : List Nat
  ty : Int
  der : Nat
  a : List Nat
  b : List Nat
  wh : Int
  size : Nat
  little : Bool
  subs : List Sb
  deriving Inhabited
def SbR (x : Sb) (c : List D) : Prop := c = [.str x.name, .int .i64 (.ofNat x.bits)]
def ItR (x : It) (c : List D) : Prop := ∃ d, c = [.str x.name, .int .i64 x.ty, .int .i64 (.ofNat x.der), .str x.a, .str x.b, .int .i64 x.wh, .int .i64 (.ofNat x.size), .v (.bool x.little), d] ∧ SlR SbR 2 d x.subs ∧ d.one = true
abbrev itC (x : It) (d : D) : List D := [.str x.name, .int .i64 x.ty, .int .i64 (.ofNat x.der), .str x.a, .str x.b, .int .i64 x.wh, .int .i64 (.ofNat x.size), .v (.bool x.little), d]
theorem itR_self {x : It} {d : D} (h1 : SlR SbR 2 d x.subs) : ItR x (itC x d) := ⟨d, rfl, h1, XF h1⟩
section
variable (l : List Tok)
def whereS (f : Nat) (nm : List Nat) (k : Nat) (der : Nat) (a b : List Nat) (i dep : Nat) (es : List Ex) (ts : List Ty) : Res (It × Nat × List Ex × List Ty) :=
  if isT (Zp l i) [119, 104, 101, 114, 101] then
    match Yt l f 1 (i + 1) dep es with
    | .ok (x, j, es') => if isT (Zp l j) [59] then .ok (⟨nm, .ofNat k, der, a, b, .ofNat x, 0, false, []⟩, j + 1, es', ts) else .err j 4
    | .err j e => .err j e
    | .oof => .oof
  else if isT (Zp l i) [59] then .ok (⟨nm, .ofNat k, der, a, b, .negSucc 0, 0, false, []⟩, i + 1, es, ts)
  else .err i 4
def fieldS (f i dep : Nat) (es : List Ex) (ts : List Ty) : Res (It × Nat × List Ex × List Ty) :=
  if isN (Zp l i) then
    if isT (Zp l (i + 1)) [58] then
      match Y8 l f (i + 2) dep es ts with
      | .ok (k, j, es', ts') =>
        if isT (Zp l j) [61] then
          match derivedS l (j + 1) with
          | .ok (d, a, b, j') => whereS l f (Zp l i).s k d a b j' dep es' ts'
          | .err j e => .err j e
          | .oof => .oof
        else whereS l f (Zp l i).s k 0 [] [] j dep es' ts'
      | .err j e => .err j e
      | .oof => .oof
    else .err (i + 1) 4
  else .err i 4
end
abbrev FI (tk : D) (l : List Tok) (h : H) (lp lf : Nat) (dc ds de dt : D) (i dep : Nat) (es : List Ex) (ts : List Ty) (Q : D → H → Prop) (a : It × Nat × List Ex × List Ty) : Prop :=
  ∀ h' de' dt' d, SlR ExR 5 de' a.2.2.1 → SlR TyR 8 dt' a.2.2.2 → SlR SbR 2 d a.1.subs → d.one = true → Tp h' 290 de' a.2.2.1.length → Tp h' 117 dt' a.2.2.2.length → (i < a.2.1 ∧ a.2.1 < l.length ∧ a.2.2.1.length + i ≤ es.length + a.2.1 ∧ a.2.2.2.length + i ≤ ts.length + a.2.1) → h.next ≤ h'.next → Bnd de' h'.next → Bnd dt' h'.next → FRT h h' lp lf de dt → Zg h'.mem lp = some (.cells 129 [tk, .int .i64 (.ofNat a.2.1), .int .i64 (.ofNat dep), .ptr lf 0]) → Zg h'.mem lf = some (.cells 108 [dc, ds, de', dt']) → ZW de' de h.next → ZW dt' dt h.next → Sep dt' de' → Sep de' dt' → Q (.agg (itC a.1 d)) h'
abbrev CI (tk : D) (l : List Tok) (h : H) (lp : Nat) (S : Nat → Nat → List Ex → List Ty → Res (It × Nat × List Ex × List Ty)) (Q : D → H → Prop) (R : Pan) : Prop :=
  atP tk l (Zg h.mem lp) lp h.next fun i dep lf => (lf ≠ lp ∧ lf < h.next) ∧ atF (Zg h.mem lf) fun dc ds de dt => ∃ es, SlR ExR 5 de es ∧ ∃ ts, SlR TyR 8 dt ts ∧ Tp h 290 de es.length ∧ Tp h 117 dt ts.length ∧ (es.length ≤ i ∧ ts.length ≤ i) ∧ (ZQ de lp ∧ ZQ de lf ∧ ZQ dt lp ∧ ZQ dt lf) ∧ Sep dt de ∧
    RES (S i dep es ts) (FI tk l h lp lf dc ds de dt i dep es ts Q) (GT l h lp lf de dt R)
theorem vc120 (h77 : T 78 = q77) (h78 : T 79 = q78) (h73 : T 74 = q73) (h114 : T 115 = q114) (h117 : T 118 = q117) (h208 : T 209 = XJ) (h155 : T 156 = XL) (h154 : T 155 = XX) (h118 : T 119 = W1) (h115 : T 116 = q115) (h116 : T 117 = q116) (h257 : T 258 = q257) (h258 : T 259 = q258) (h261 : T 262 = q261) (h157 : T 158 = q157) (h120 : T 121 = q120) (tks : Toks tk l) {f : Nat}
    (ihE : ∀ {h : H} {Q : D → H → Prop} {R : Pan}, CE tk l h lp (fun i dep es => Yt l f 1 i dep es) Q R → VC E T 159 [.ptr lp 0] h Q R)
    (ihK : ∀ {h : H} {Q : D → H → Prop} {R : Pan}, CT tk l h lp 0 (fun i dep es ts => Y8 l f i dep es ts) Q R → VC E T 157 [.ptr lp 0] h Q R)
    (hq : CI tk l h lp (fun i dep es ts => fieldS l f i dep es ts) Q R) : VC E T 121 [.ptr lp 0] h Q R := by
  obtain ⟨i, dep, lf, hm, ⟨hi, hn⟩, ⟨n1, n2⟩, dc, ds, de, dt, hf, es, hE, ts, hY, hT, hU, ⟨hl, hl2⟩, ⟨s1, s2, s3, s4⟩, s5, hk⟩ := hq
  have s6 := sepS s5
  have hbd := hT.bnd
  have hbu := hU.bnd
  have hsm := tks.small
  refine Ya h120 ?_
  unfold ZV
  repeat' (with_reducible (first | refine Zk ?_ | refine Zl ?_ | refine ZG ?_ | refine ZF ?_ | refine Zn ?_ | refine Zd ?_ | refine Zm ?_ | refine ZH ?_ | refine Zy ?_ | refine Zi ?_ | refine Zz ?_ | refine vc115 h77 h78 h208 h155 h154 h118 h115 tks ?_ | refine vc117 h77 h73 h117 tks ?_ | refine vc114 h77 h78 h73 h114 tks ?_ | refine ihE ?_ | refine ihK ?_ | refine vc157 h77 h78 h73 h114 h117 h208 h155 h154 h118 h115 h116 h257 h258 h261 h157 tks ?_ | simp (maxSteps := 2000000) (disch := first | assumption | ((try refine Yy (by assumption) ?_); (show ZQ _ _; first | assumption | ((iterate 6 (try refine Zx (by assumption) (by omega) ?_)); first | assumption | exact Zw (by assumption) (by omega) | exact Zv (by assumption) (by assumption) | exact Zf | exact Y5 (by assumption) (by assumption) (by assumption) (by omega) (by assumption)))) | omega | (simp only [Z4, Z3, List.length_cons, List.length_nil, List.length_append, List.length_take, List.length_drop]; omega) | fail) only [go_sem, -Int.reduceOfNat, *, CE, FE, GE, CT, FT, GT, ZV] | ((first | refine ZL ?_ ?_ | refine ZC ?_ ?_ | refine ZK ?_ ?_ | refine ZA ?_ ?_ | refine ZB ?_ ?_ | refine Zj ?_ ?_) <;> intro _) | (show Q _ _; simp only [fieldS, whereS, itC, ZN, ZD, Zu, if_true, if_false, List.cons.injEq, Nat.reduceLT, Nat.reduceLeDiff, List.length_nil, Bool.false_eq_true, Bool.true_eq_false, eq_self, Nat.reduceEqDiff, reduceCtorEq, true_or, or_true, or_self, false_or, or_false, not_true_eq_false, not_false_eq_true, and_true, true_and, and_false, false_and, *] at hk; refine hk _ _ _ _ (by assumption) (by assumption) SlR.nil rfl ?_ ?_ ?_ ?_ ?_ ?_ ?_ ?_ ?_ ?_ ?_ ?_ ?_) | (show R _ _; simp only [fieldS, whereS, itC, ZN, ZD, Zu, if_true, if_false, List.cons.injEq, Nat.reduceLT, Nat.reduceLeDiff, List.length_nil, Bool.false_eq_true, Bool.true_eq_false, eq_self, Nat.reduceEqDiff, reduceCtorEq, true_or, or_true, or_self, false_or, or_false, not_true_eq_false, not_false_eq_true, and_true, true_and, and_false, false_and, *] at hk; refine hk _ ?_ ?_ ?_) | (show False; simp only [fieldS, whereS, itC, ZN, ZD, Zu, if_true, if_false, List.cons.injEq, Nat.reduceLT, Nat.reduceLeDiff, List.length_nil, Bool.false_eq_true, Bool.true_eq_false, eq_self, Nat.reduceEqDiff, reduceCtorEq, true_or, or_true, or_self, false_or, or_false, not_true_eq_false, not_false_eq_true, and_true, true_and, and_false, false_and, *] at hk) | (refine Yl ?_ ?_ ?_) | (refine ZP ?_ ?_ ?_) | refine And.intro ?_ ?_ | (refine ZX (by assumption) ?_) | exact ZW.refl | (refine ZW.trans (by assumption) (by first | omega | (simp only [Z4, Z3]; omega)) ?_) | exact W5 | exact X6 | exact Y9 | (refine W6 (by assumption) (by assumption) (by first | omega | (simp only [Z4, Z3]; omega)) ?_) | (refine W0 (by assumption) (by assumption) (by first | omega | (simp only [Z4, Z3]; omega)) ?_) | (refine ⟨_, YU, ?_⟩) | (refine ⟨_, by assumption, ?_⟩) | (refine Tp.mono (by assumption) ?_ (fun _ _ _ => ?_)) | assumption | (show ZQ _ _; first | assumption | ((iterate 6 (try refine Zx (by assumption) (by omega) ?_)); first | assumption | exact Zw (by assumption) (by omega) | exact Zv (by assumption) (by assumption) | exact Zf | exact Y5 (by assumption) (by assumption) (by assumption) (by omega) (by assumption))) | (show _ < _; omega) | (show _ ≤ _; omega) | (show (_ : Nat) ≠ _; omega) | (show ¬ (_ : Nat) = _; omega) | (show (_ : Nat) = _; omega) | (intro _; intros) | (exact False.elim (by assumption)) | fail))
  all_goals trace_state
end
section
def q119 : FFn := ffn ZV (fun t h => YR ⟨[.cN 2 9], .skip⟩ (act t) h)
 (Z0 (Z1 <| fo (Zr 112 [(.str []), (.int .i64 (.ofNat 0)), (.int .i64 (.ofNat 0)), (.str []), (.str []), (.int .i64 (.ofNat 0)), (.int .i64 (.ofNat 0)), (.v (.bool false)), (.v (.slice none 0 0))]) (St 2) <| Z2)
 (Z0 (Z1 <| mM 0 9 <| mK 115 [(Gt 9), (kS [112, 97, 99, 107])] 10 <| Z2)
 (Z0 (Z1 <| fo (ZR [(.str []), (.int .i64 (.ofNat 0)), (.int .i64 (.ofNat 0)), (.str []), (.str []), (.int .i64 (.ofNat 0)), (.int .i64 (.ofNat 0)), (.v (.bool false)), (.v (.slice none 0 0))] [(1, 1, (kD (.int .i64 (.negSucc 0)))), (5, 1, (kD (.int .i64 (.negSucc 0))))]) (St 11) <| fo (Zr 112 [(.str []), (.int .i64 (.ofNat 0)), (.int .i64 (.ofNat 0)), (.str []), (.str []), (.int .i64 (.ofNat 0)), (.int .i64 (.ofNat 0)), (.v (.bool false)), (.v (.slice none 0 0))]) (St 3) <| fo (ZE 9 (Gt 3) (Gt 11)) p0 <| Z2)
 (Z0 (Z1 <| mM 0 13 <| mK 78 [(Gt 13)] 14 <| fo (u1 (Xf false 1 1) (Gt 14)) (St 15) <| mK 156 [(Gt 15)] 16 <| mM 16 12 <| mE 0 12 17 <| mE 1 12 18 <| mE 2 12 19 <| mM 17 4 <| mM 18 5 <| mM 19 6 <| Z2)
 (Z0 (Z0 (Z1 <| mM 6 20 <| fo (u1 (r_un .not) (Gt 20)) (St 21) <| mM 21 22 <| fog (Gt 22) false (fmv (Gt 0)) (St 23) <| fog (Gt 22) false (Zo 78 [(Gt 23)]) (St 24) <| fog (Gt 22) false (u1 (Xf false 0 1) (Gt 24)) (St 25) <| fog (Gt 22) false (mR 170 25 0) (St 26) <| fo (ZO (Gt 22) (kD (.v (.bool true))) (Gt 26)) (St 27) <| Z2)
 (Z6 (Gt 27) (Z1 <| mM 0 28 <| mK 79 [(Gt 28), (kI 4)] 29 <| Z2) Z9))
 (Z0 (Z1 <| mM 0 30 <| mN 30 31 <| mF 1 31 32 <| mL 32 33 <| fo (Zc Y7 .add 3 (.tmp 33) (.const (.int .i64 (.ofNat 1))) (Gt 33) (kI 1)) (St 34) <| mN 30 35 <| mF 1 35 36 <| mS 36 (Gt 34) <| Z2)
 (Z0 (Z1 <| mM 4 37 <| mM 5 38 <| mF 6 3 39 <| mS 39 (Gt 37) <| mF 7 3 40 <| mS 40 (Gt 38) <| Z2)
 (Z0 (Z1 <| mM 0 41 <| mK 115 [(Gt 41), (kS [123])] 42 <| Z2)
 (Z0 (Zb 0 (Y3 (Z0 (Z0 (Z1 <| mF 8 3 43 <| mL 43 44 <| fo (u1 Xl (Gt 44)) (St 45) <| fo (mQ 3 45 0) (St 46) <| mM 46 47 <| fog (Gt 47) false (fmv (Gt 0)) (St 48) <| fog (Gt 47) false (Zo 119 [(Gt 48)]) (St 49) <| fo (ZO (Gt 47) (kD (.v (.bool true))) (Gt 49)) (St 50) <| Z2)
 (Z6 (Gt 50) Z9 (Yh 0)))
 (Zb 1 (Z0 (Z0 (Z1 <| mM 0 51 <| mK 119 [(Gt 51)] 52 <| Z2)
 (Z6 (Gt 52) (Z1 <| mM 0 53 <| mF 8 3 54 <| mL 54 55 <| fo (u1 Xl (Gt 55)) (St 56) <| mK 75 [(Gt 53), (Gt 56), (kI 64)] 57 <| Z2) Z9))
 (Z0 (Z1 <| mM 0 58 <| mK 116 [(Gt 58)] 59 <| mM 59 7 <| Z2)
 (Z0 (Z1 <| mM 0 60 <| mK 115 [(Gt 60), (kS [58])] 61 <| Z2)
 (Z0 (Z1 <| mM 0 62 <| mK 117 [(Gt 62)] 63 <| mM 63 8 <| Z2)
 (Z0 (Z1 <| mM 0 64 <| mK 115 [(Gt 64), (kS [59])] 65 <| Z2)
 (Z1 <| mF 8 3 66 <| mL 66 67 <| mM 7 68 <| mM 8 69 <| fo (fbi .min #[44, 44] 44 #[false, true] [(Gt 69), (kD (.int .u64 (.ofNat 1048576)))]) (St 70) <| fo (fcint .i64 (Gt 70)) (St 71) <| fo (ZR [(.str []), (.int .i64 (.ofNat 0))] [(0, 1, (Gt 68)), (1, 1, (Gt 71))]) (St 72) <| fo (Y6 203 1 [(.str []), (.int .i64 (.ofNat 0))] [(0, 2, (Gt 72))]) (St 73) <| fo (u2 (YY 203 2 24) (Gt 67) (Gt 73)) (St 74) <| mF 8 3 75 <| mS 75 (Gt 74) <| Z2))))))))))
 (Z0 (Z1 <| mM 0 76 <| mK 115 [(Gt 76), (kS [125])] 77 <| Z2)
 (Z0 (Z1 <| fo (ZT 9 (Gt 3)) (St 78) <| fo (ZE 9 (Gt 2) (Gt 78)) p0 <| Z2)
 Ze)))))))))))
variable {tk : D} {l : List Tok} {lp : Nat} {h : H} {Q : D → H → Prop} {R : Pan}
section
variable (l : List Tok)
def subsS : Nat → List Sb → Nat → Res (List Sb × Nat)
  | 0, _, _ => .oof
  | g + 1, xs, i =>
    if xs.length = 0 ∨ isN (Zp l i) then
      if isN (Zp l i) ∧ ¬ xs.length < 64 then .err i 10
      else if isN (Zp l i) then
        if isT (Zp l (i + 1)) [58] then
          if (Zp l (i + 2)).k = 1 then
            if isT (Zp l (i + 3)) [59] then subsS g (xs ++ [⟨(Zp l i).s, min (Zp l (i + 2)).n 1048576⟩]) (i + 4)
            else .err (i + 3) 4
          else .err (i + 2) 4
        else .err (i + 1) 4
      else .err i 4
    else if isT (Zp l i) [125] then .ok (xs, i + 1) else .err i 4
def packS (g i : Nat) : Res (It × Nat) :=
  if isT (Zp l i) [112, 97, 99, 107] then
    if (integ (Zp l (i + 1)).s).2.2 = true ∧ (Zp l (i + 1)).k = 0 then
      if isT (Zp l (i + 2)) [123] then
        match subsS l g [] (i + 3) with
        | .ok (xs, j) => .ok (⟨[], .negSucc 0, 0, [], [], .negSucc 0, (integ (Zp l (i + 1)).s).1, (integ (Zp l (i + 1)).s).2.1, xs⟩, j)
        | .err j e => .err j e
        | .oof => .oof
      else .err (i + 2) 4
    else .err (i + 1) 4
  else .err i 4
end
theorem minBu {c : Call} {a : AAct} (t : TypeId) (m n : Nat) (cs : Array Bool) : r_bi .min #[t, t] t cs [.d (.int .u64 (.ofNat m)), .d (.int .u64 (.ofNat n))] E c a h = .ok (.int .u64 (.ofNat (min m n))) h := by
  simp only [r_bi, AAct.evals, AAct.eval, plains, D.plain, D.plain0, D.plain1]
  have : val? E.P (builtin .min #[t, t] t cs #[.int .u64 (.ofNat m), .int .u64 (.ofNat n)]) = some (.value (.int .u64 (.ofNat (min m n)))) := by
    have e : (if (Int.ofNat n) < (Int.ofNat m) then Int.ofNat n else Int.ofNat m) = Int.ofNat (min m n) := by
      simp only [Int.ofNat_eq_natCast]
      split <;> omega
    rw [← e]
    rfl
  simp only [this]
  rfl
theorem RES_cases2 {α β : Type} {S : Res (α × β)} {F : α × β → Prop} {G : Nat → Nat → Prop} (hn : S = .oof → False) (h1 : ∀ a b, S = .ok (a, b) → F (a, b)) (h2 : ∀ j e, S = .err j e → G j e) : RES S F G :=
  RES_cases hn (fun a ha => h1 a.1 a.2 ha) h2
theorem RES_bind2 {α β δ : Type} {S : Res (α × β)} {g : α → β → δ} {F : δ → Prop} {G : Nat → Nat → Prop} : RES (match S with | .ok (a, b) => .ok (g a b) | .err j e => .err j e | .oof => .oof) F G ↔ RES S (fun a => F (g a.1 a.2)) G := by cases S <;> rfl
theorem sbR_mk {nm : List Nat} {n : Nat} : SbR ⟨nm, n⟩ [.str nm, .int .i64 (.ofNat n)] := rfl
theorem sb_same {d : D} {xs : List Sb} (hr : SlR SbR 2 d xs) : D.same d d = true := slR_same (fun x c h => by unfold SbR at h; subst h; simp only [Yw, Xd, Xn, YN, Bool.and_self]) hr
abbrev FRP (h h' : H) (lp : Nat) : Prop := ∀ l : Nat, l < h.next → l ≠ lp → Zg h'.mem l = Zg h.mem l
abbrev FP (tk : D) (l : List Tok) (h : H) (lp lf : Nat) (i dep : Nat) (Q : D → H → Prop) (a : It × Nat) : Prop :=
  ∀ h' d, SlR SbR 2 d a.1.subs → d.one = true → (i < a.2 ∧ a.2 < l.length) → h.next ≤ h'.next → FRP h h' lp → Zg h'.mem lp = some (.cells 129 [tk, .int .i64 (.ofNat a.2), .int .i64 (.ofNat dep), .ptr lf 0]) → Q (.agg (itC a.1 d)) h'
abbrev GP (l : List Tok) (h : H) (lp : Nat) (R : Pan) (j e : Nat) : Prop := ∀ h', j < l.length → h.next ≤ h'.next → FRP h h' lp → R (fault3 (Zp l j) e) h'
abbrev IP (tk : D) (l : List Tok) (h : H) (lp lf : Nat) (i dep : Nat) (g : Nat) (Q : D → H → Prop) (R : Pan) (n : Nat) (t1 : Tr D) (h1 : H) : Prop :=
  n ≤ g ∧ Gt 0 t1 = .ptr lp 0 ∧ Gt 2 t1 = .ptr h.next 0 ∧ ∃ lt, Gt 3 t1 = .ptr lt 0 ∧ ∃ sz, ∃ lit, ∃ da, Zg h1.mem lt = some (.cells 112 [.str [], .int .i64 (.negSucc 0), .int .i64 (.ofNat 0), .str [], .str [], .int .i64 (.negSucc 0), .int .i64 (.ofNat sz), .v (.bool lit), da]) ∧ ∃ j, Zg h1.mem lp = some (.cells 129 [tk, .int .i64 (.ofNat j), .int .i64 (.ofNat dep), .ptr lf 0]) ∧ ∃ z2, Zg h1.mem h.next = some (.cells 112 z2) ∧ z2.length = 9 ∧ ∃ xs, SlR SbR 2 da xs ∧ Tp h1 203 da xs.length ∧ Bnd da h1.next ∧ h.next + 1 ≤ lt ∧ lt < h1.next ∧ ZQ da lt ∧ ZQ da h.next ∧ ZW da (.v (.slice none 0 0)) h.next ∧ xs.length ≤ j ∧ i < j ∧ j < l.length ∧ h.next ≤ h1.next ∧ FRP h h1 lp ∧ RES (subsS l n xs j) (fun a => FP tk l h lp lf i dep Q (⟨[], .negSucc 0, 0, [], [], .negSucc 0, sz, lit, a.1⟩, a.2)) (GP l h lp R)
theorem vc119 (h77 : T 78 = q77) (h78 : T 79 = q78) (h73 : T 74 = q73) (h114 : T 115 = q114) (h117 : T 118 = q117) (h208 : T 209 = XJ) (h155 : T 156 = XL) (h154 : T 155 = XX) (h118 : T 119 = W1) (h115 : T 116 = q115) (h116 : T 117 = q116) (h257 : T 258 = q257) (h258 : T 259 = q258) (h261 : T 262 = q261) (h74 : T 75 = q74) (h119 : T 120 = q119) (tks : Toks tk l) {g : Nat} (hq : atP tk l (Zg h.mem lp) lp h.next fun i dep lf => RES (packS l g i) (FP tk l h lp lf i dep Q) (GP l h lp R)) : VC E T 120 [.ptr lp 0] h Q R := by
  obtain ⟨i, dep, lf, hm, ⟨hi, hn⟩, hk⟩ := hq
  have hsm := tks.small
  have hmk : (Zp l (i + 1)).k = 0 → i + 1 < l.length → i + 1 + 1 < l.length := fun h h' => tks.more (i + 1) h' (by rw [h]; decide)
  refine Ya h119 ?_
  unfold ZV
  repeat' (with_reducible (first | refine Zk ?_ | refine Zl ?_ | refine ZG ?_ | refine ZF ?_ | refine Zn ?_ | refine Zd ?_ | refine Zm ?_ | refine ZH ?_ | refine Zy ?_ | refine Zi ?_ | refine Zz ?_ | refine vc114 h77 h78 h73 h114 tks ?_ | refine vc77 h77 tks ?_ | refine vc155 h208 h155 ⟨?_, ?_⟩ | refine vc78 h77 h78 tks ?_ | simp (maxSteps := 2000000) (disch := first | assumption | ((try refine Yy (by assumption) ?_); (show ZQ _ _; first | assumption | ((iterate 6 (try refine Zx (by assumption) (by omega) ?_)); first | assumption | exact Zw (by assumption) (by omega) | exact Zv (by assumption) (by assumption) | exact Zf | exact Y5 (by assumption) (by assumption) (by assumption) (by omega) (by assumption)))) | omega | (simp only [Z4, Z3, List.length_cons, List.length_nil, List.length_append, List.length_take, List.length_drop]; omega) | fail) only [go_sem, -Int.reduceOfNat, *, ZV, IP, FP, GP, vr_bi, minBu, evs_cons, evs_nil, wrap_ok, and_assoc, exists_and_left, D.v.injEq, Value.bool.injEq, Option.some.injEq, AObj.cells.injEq, D.int.injEq, D.ptr.injEq, Int.ofNat.injEq, exists_eq_left'] | ((first | refine ZL ?_ ?_ | refine ZC ?_ ?_ | refine ZK ?_ ?_ | refine ZA ?_ ?_ | refine ZB ?_ ?_ | refine Zj ?_ ?_) <;> intro _) | (refine W4 (IP tk l h lp lf i dep g Q R) (n := g) ?_ ?_) | (refine ⟨_, SlR.nil, ?_⟩) | exact Tp.nil | (exact hmk (by assumption) (by assumption)) | (show Q _ _; simp only [packS, RES_bind2, itC, ZN, ZD, Zu, if_true, if_false, List.cons.injEq, Nat.reduceLT, Nat.reduceLeDiff, List.length_nil, Bool.false_eq_true, Bool.true_eq_false, eq_self, Nat.reduceEqDiff, reduceCtorEq, true_or, or_true, or_self, false_or, or_false, not_true_eq_false, not_false_eq_true, and_true, true_and, and_false, false_and, *] at hk; refine hk _ _ (by assumption) (by assumption) ?_ ?_ ?_ ?_) | (show R _ _; simp only [packS, RES_bind2, itC, ZN, ZD, Zu, if_true, if_false, List.cons.injEq, Nat.reduceLT, Nat.reduceLeDiff, List.length_nil, Bool.false_eq_true, Bool.true_eq_false, eq_self, Nat.reduceEqDiff, reduceCtorEq, true_or, or_true, or_self, false_or, or_false, not_true_eq_false, not_false_eq_true, and_true, true_and, and_false, false_and, *] at hk; refine hk _ ?_ ?_ ?_) | (show False; simp only [packS, RES_bind2, itC, ZN, ZD, Zu, if_true, if_false, List.cons.injEq, Nat.reduceLT, Nat.reduceLeDiff, List.length_nil, Bool.false_eq_true, Bool.true_eq_false, eq_self, Nat.reduceEqDiff, reduceCtorEq, true_or, or_true, or_self, false_or, or_false, not_true_eq_false, not_false_eq_true, and_true, true_and, and_false, false_and, *] at hk) | (refine RES_cases2 ?_ ?_ ?_) | (refine ZP ?_ ?_ ?_) | refine And.intro ?_ ?_ | (refine ZX (by assumption) ?_) | exact ZW.refl | (refine ZW.trans (by assumption) (by first | omega | (simp only [Z4, Z3]; omega)) ?_) | exact W5 | exact X6 | exact Y9 | (refine W6 (by assumption) (by assumption) (by first | omega | (simp only [Z4, Z3]; omega)) ?_) | (refine W0 (by assumption) (by assumption) (by first | omega | (simp only [Z4, Z3]; omega)) ?_) | (refine ⟨_, YU, ?_⟩) | (refine ⟨_, by assumption, ?_⟩) | (refine Tp.mono (by assumption) ?_ (fun _ _ _ => ?_)) | assumption | (show ZQ _ _; first | assumption | ((iterate 6 (try refine Zx (by assumption) (by omega) ?_)); first | assumption | exact Zw (by assumption) (by omega) | exact Zv (by assumption) (by assumption) | exact Zf | exact Y5 (by assumption) (by assumption) (by assumption) (by omega) (by assumption))) | (show _ < _; omega) | (show _ ≤ _; omega) | (show (_ : Nat) ≠ _; omega) | (show ¬ (_ : Nat) = _; omega) | (show (_ : Nat) = _; omega) | (intro _; intros) | (exact False.elim (by assumption)) | fail))
  all_goals
    rintro (_ | n) t1 h1 ⟨gn, g0, g2, lt, g3, sz, lit, da, gm, j1, gl, z2, gz, gz9, xs, gI, gU, w2, w3, w4, w5, w6, w7, w8, w9, w10, gnx, gfr, hk⟩
    · simp only [subsS, Zu] at hk
    have hmj := tks.more j1 w10
    have gone := XF gI
    have glen := gI.len
    repeat' (with_reducible (first | refine Zk ?_ | refine Zl ?_ | refine ZG ?_ | refine ZF ?_ | refine Zn ?_ | refine Zd ?_ | refine Zm ?_ | refine ZH ?_ | refine Zy ?_ | refine Zi ?_ | refine Zz ?_ | refine vc77 h77 tks ?_ | refine vc114 h77 h78 h73 h114 tks ?_ | refine vc115 h77 h78 h208 h155 h154 h118 h115 tks ?_ | refine vc116 h77 h78 h116 tks ?_ | refine vc118 h77 h208 h155 h154 h118 tks ?_ | refine vc74 h77 h78 h74 tks ?_ | refine vc78 h77 h78 tks ?_ | simp (maxSteps := 2000000) (disch := first | assumption | ((try refine Yy (by assumption) ?_); (show ZQ _ _; first | assumption | ((iterate 6 (try refine Zx (by assumption) (by omega) ?_)); first | assumption | exact Zw (by assumption) (by omega) | exact Zv (by assumption) (by assumption) | exact Zf | exact Y5 (by assumption) (by assumption) (by assumption) (by omega) (by assumption)))) | omega | (simp only [Z4, Z3, List.length_cons, List.length_nil, List.length_append, List.length_take, List.length_drop]; omega) | fail) only [go_sem, -Int.reduceOfNat, *, ZV, IP, FP, GP, vr_bi, minBu, evs_cons, evs_nil, wrap_ok, and_assoc, exists_and_left, D.v.injEq, Value.bool.injEq, Option.some.injEq, AObj.cells.injEq, D.int.injEq, D.ptr.injEq, Int.ofNat.injEq, exists_eq_left', gone, glen] | ((first | refine ZL ?_ ?_ | refine ZC ?_ ?_ | refine ZK ?_ ?_ | refine ZA ?_ ?_ | refine ZB ?_ ?_ | refine Zj ?_ ?_) <;> intro _) | (refine ⟨n, Nat.lt_succ_self n, ?_⟩) | (refine vO_app (F := SbR) (xs := xs) gI (Tp.mono gU ?_ (fun _ _ _ => ?_)) sbR_mk ?_ ?_ ?_ ?_ ?_ ?_) | (show Q _ _; simp only [subsS, itC, ZN, ZD, Zu, if_true, if_false, List.cons.injEq, Nat.reduceLT, Nat.reduceLeDiff, List.length_nil, Bool.false_eq_true, Bool.true_eq_false, eq_self, Nat.reduceEqDiff, reduceCtorEq, true_or, or_true, or_self, false_or, or_false, not_true_eq_false, not_false_eq_true, and_true, true_and, and_false, false_and, *] at hk; refine hk _ _ (by assumption) (by assumption) ?_ ?_ ?_ ?_) | (show R _ _; simp only [subsS, itC, ZN, ZD, Zu, if_true, if_false, List.cons.injEq, Nat.reduceLT, Nat.reduceLeDiff, List.length_nil, Bool.false_eq_true, Bool.true_eq_false, eq_self, Nat.reduceEqDiff, reduceCtorEq, true_or, or_true, or_self, false_or, or_false, not_true_eq_false, not_false_eq_true, and_true, true_and, and_false, false_and, *] at hk; refine hk _ ?_ ?_ ?_) | (show False; simp only [subsS, itC, ZN, ZD, Zu, if_true, if_false, List.cons.injEq, Nat.reduceLT, Nat.reduceLeDiff, List.length_nil, Bool.false_eq_true, Bool.true_eq_false, eq_self, Nat.reduceEqDiff, reduceCtorEq, true_or, or_true, or_self, false_or, or_false, not_true_eq_false, not_false_eq_true, and_true, true_and, and_false, false_and, *] at hk) | (refine RES_cases2 ?_ ?_ ?_) | (refine ZP ?_ ?_ ?_) | refine And.intro ?_ ?_ | (refine ZX (by assumption) ?_) | exact ZW.refl | (refine ZW.trans (by assumption) (by first | omega | (simp only [Z4, Z3]; omega)) ?_) | exact W5 | exact X6 | exact Y9 | (refine W6 (by assumption) (by assumption) (by first | omega | (simp only [Z4, Z3]; omega)) ?_) | (refine W0 (by assumption) (by assumption) (by first | omega | (simp only [Z4, Z3]; omega)) ?_) | (refine ⟨_, YU, ?_⟩) | (refine ⟨_, by assumption, ?_⟩) | (refine Tp.mono (by assumption) ?_ (fun _ _ _ => ?_)) | assumption | (show ZQ _ _; first | assumption | ((iterate 6 (try refine Zx (by assumption) (by omega) ?_)); first | assumption | exact Zw (by assumption) (by omega) | exact Zv (by assumption) (by assumption) | exact Zf | exact Y5 (by assumption) (by assumption) (by assumption) (by omega) (by assumption))) | (show _ < _; omega) | (show _ ≤ _; omega) | (show (_ : Nat) ≠ _; omega) | (show ¬ (_ : Nat) = _; omega) | (show (_ : Nat) = _; omega) | (intro _; intros) | (exact False.elim (by assumption)) | fail))
  all_goals trace_state
end
section
def q76 : FFn := ffn ZV (fun t h => YR ⟨[.cN 2 3], .skip⟩ (act t) h)
 (Z0 (Z1 <| fo (Zr 102 [(.str []), (.v (.slice none 0 0)), (.v (.slice none 0 0))]) (St 2) <| Z2)
 (Z0 (Z1 <| mM 0 4 <| mK 115 [(Gt 4), (kS [115, 116, 114, 117, 99, 116])] 5 <| Z2)
 (Z0 (Z1 <| mM 0 6 <| mK 116 [(Gt 6)] 7 <| fo (ZR [(.str []), (.v (.slice none 0 0)), (.v (.slice none 0 0))] [(0, 1, (Gt 7))]) (St 8) <| fo (Zr 102 [(.str []), (.v (.slice none 0 0)), (.v (.slice none 0 0))]) (St 3) <| fo (ZE 3 (Gt 3) (Gt 8)) p0 <| Z2)
 (Z0 (Z0 (Z1 <| mM 0 9 <| mK 118 [(Gt 9), (kS [40])] 10 <| Z2)
 (Z6 (Gt 10) (Z0 (Y1 <| fdo (u1 (YC 1) (Gt 3)) (St 11) <| fdr 1 [] 1 (Gt 11) (Zh (Gt 11)) (St 12) <| fdo (fmv (Gt 0)) (St 13) <| fdp 3 [0, 1] (Zo 116 [(Gt 13)]) (St 14) <| fdo (Y6 9 1 [(.str [])] [(0, 1, (Gt 14))]) (St 15) <| fdl 5 [] (u2 (YY 9 1 16) (Gt 12) (Gt 15)) (St 16) <| fdo (u1 (YC 1) (Gt 3)) (St 17) <| fdl 7 [] (ZE 1 (Gt 17) (Gt 16)) p0 <| Y2)
 (Z0 (Zb 0 (Y3 (Z0 (Z0 (Z1 <| mM 0 18 <| mK 118 [(Gt 18), (kS [44])] 19 <| Z2)
 (Z6 (Gt 19) Z9 (Yh 0)))
 (Zb 1 (Z0 (Z0 (Z1 <| mM 0 20 <| mK 119 [(Gt 20)] 21 <| Z2)
 (Z6 (Gt 21) (Z1 <| mM 0 22 <| mF 1 3 23 <| mL 23 24 <| fo (u1 Xl (Gt 24)) (St 25) <| mK 75 [(Gt 22), (Gt 25), (kI 64)] 26 <| Z2) Z9))
 (Y1 <| fdo (u1 (YC 1) (Gt 3)) (St 27) <| fdr 1 [] 1 (Gt 27) (Zh (Gt 27)) (St 28) <| fdo (fmv (Gt 0)) (St 29) <| fdp 3 [0, 1] (Zo 116 [(Gt 29)]) (St 30) <| fdo (Y6 9 1 [(.str [])] [(0, 1, (Gt 30))]) (St 31) <| fdl 5 [] (u2 (YY 9 1 16) (Gt 28) (Gt 31)) (St 32) <| fdo (u1 (YC 1) (Gt 3)) (St 33) <| fdl 7 [] (ZE 1 (Gt 33) (Gt 32)) p0 <| Y2))))))
 (Z1 <| mM 0 34 <| mK 115 [(Gt 34), (kS [41])] 35 <| Z2))) Z9))
 (Z0 (Z1 <| mM 0 36 <| mK 115 [(Gt 36), (kS [123])] 37 <| Z2)
 (Z0 (Zb 2 (Y3 (Z0 (Z0 (Z1 <| mM 0 38 <| mK 74 [(Gt 38), (kS [112, 97, 99, 107])] 39 <| mM 39 40 <| fog (Gt 40) false (fmv (Gt 0)) (St 41) <| fog (Gt 40) false (Zo 119 [(Gt 41)]) (St 42) <| fo (ZO (Gt 40) (kD (.v (.bool true))) (Gt 42)) (St 43) <| Z2)
 (Z6 (Gt 43) Z9 (Yh 2)))
 (Zb 3 (Z0 (Z1 <| mM 0 44 <| mF 2 3 45 <| mL 45 46 <| fo (u1 Xl (Gt 46)) (St 47) <| mK 75 [(Gt 44), (Gt 47), (kI 64)] 48 <| Z2)
 (Z0 (Z1 <| mM 0 49 <| mK 74 [(Gt 49), (kS [112, 97, 99, 107])] 50 <| Z2)
 (Z6 (Gt 50) (Y1 <| fdo (u1 (YC 2) (Gt 3)) (St 51) <| fdr 1 [] 1 (Gt 51) (Zh (Gt 51)) (St 52) <| fdo (fmv (Gt 0)) (St 53) <| fdp 3 [0, 1] (Zo 120 [(Gt 53)]) (St 54) <| fdo (Y6 112 1 [(.str []), (.int .i64 (.ofNat 0)), (.int .i64 (.ofNat 0)), (.str []), (.str []), (.int .i64 (.ofNat 0)), (.int .i64 (.ofNat 0)), (.v (.bool false)), (.v (.slice none 0 0))] [(0, 9, (Gt 54))]) (St 55) <| fdl 5 [] (u2 (YY 112 9 112) (Gt 52) (Gt 55)) (St 56) <| fdo (u1 (YC 2) (Gt 3)) (St 57) <| fdl 7 [] (ZE 1 (Gt 57) (Gt 56)) p0 <| Y2) (Y1 <| fdo (u1 (YC 2) (Gt 3)) (St 58) <| fdr 1 [] 1 (Gt 58) (Zh (Gt 58)) (St 59) <| fdo (fmv (Gt 0)) (St 60) <| fdp 3 [0, 1] (Zo 121 [(Gt 60)]) (St 61) <| fdo (Y6 112 1 [(.str []), (.int .i64 (.ofNat 0)), (.int .i64 (.ofNat 0)), (.str []), (.str []), (.int .i64 (.ofNat 0)), (.int .i64 (.ofNat 0)), (.v (.bool false)), (.v (.slice none 0 0))] [(0, 9, (Gt 61))]) (St 62) <| fdl 5 [] (u2 (YY 112 9 112) (Gt 59) (Gt 62)) (St 63) <| fdo (u1 (YC 2) (Gt 3)) (St 64) <| fdl 7 [] (ZE 1 (Gt 64) (Gt 63)) p0 <| Y2))))))))
 (Z0 (Z1 <| mM 0 65 <| mK 115 [(Gt 65), (kS [125])] 66 <| Z2)
 (Z0 (Z1 <| fo (ZT 3 (Gt 3)) (St 67) <| fo (ZE 3 (Gt 2) (Gt 67)) p0 <| Z2)
 Ze))))))))
variable {tk : D} {l : List Tok} {lp : Nat} {h : H} {Q : D → H → Prop} {R : Pan}
structure Sc where
  name : List Nat
  params : List (List Nat)
  items : List It
  deriving Inhabited
def StrR (x : List Nat) (c : List D) : Prop := c = [.str x]
def ScR (x : Sc) (c : List D) : Prop := ∃ dp di, c = [.str x.name, dp, di] ∧ SlR StrR 1 dp x.params ∧ SlR ItR 9 di x.items ∧ dp.one = true ∧ di.one = true
theorem strR_mk {s : List Nat} : StrR s [.str s] := rfl
theorem scR_mk {nm : List Nat} {ps : List (List Nat)} {its : List It} {dp di : D} (h1 : SlR StrR 1 dp ps) (h2 : SlR ItR 9 di its) : ScR ⟨nm, ps, its⟩ [.str nm, dp, di] := ⟨dp, di, rfl, h1, h2, XF h1, XF h2⟩
theorem str_same {d : D} {xs : List (List Nat)} (hr : SlR StrR 1 d xs) : D.same d d = true := slR_same (fun x c h => by unfold StrR at h; subst h; simp only [Yw, Xn, YN, Bool.and_self]) hr
theorem same_bool {b : Bool} : D.same (.v (.bool b)) (.v (.bool b)) = true := by cases b <;> rfl
theorem it_same {d : D} {xs : List It} (hr : SlR ItR 9 d xs) : D.same d d = true := slR_same (fun x c h => by
  obtain ⟨e, rfl, hs, _⟩ := h
  simp only [Yw, Xd, Xn, same_bool, sb_same hs, YN, Bool.and_self]) hr
section
variable (l : List Tok)
def Xw : Nat → List (List Nat) → Nat → Res (List (List Nat) × Nat)
  | 0, _, _ => .oof
  | g + 1, xs, i =>
    if isT (Zp l i) [44] then
      if isN (Zp l (i + 1)) then
        if xs.length < 64 then Xw g (xs ++ [(Zp l (i + 1)).s]) (i + 2) else .err (i + 1) 10
      else .err (i + 1) 4
    else if isT (Zp l i) [41] then .ok (xs, i + 1) else .err i 4
def itemsS (f : Nat) : Nat → List It → Nat → Nat → List Ex → List Ty → Res (List It × Nat × List Ex × List Ty)
  | 0, _, _, _, _, _ => .oof
  | g + 1, xs, i, dep, es, ts =>
    if isT (Zp l i) [112, 97, 99, 107] then
      if xs.length < 64 then
        match packS l f i with
        | .ok (x, j) => itemsS f g (xs ++ [x]) j dep es ts
        | .err j e => .err j e
        | .oof => .oof
      else .err i 10
    else if isN (Zp l i) then
      if xs.length < 64 then
        match fieldS l f i dep es ts with
        | .ok (x, j, es', ts') => itemsS f g (xs ++ [x]) j dep es' ts'
        | .err j e => .err j e
        | .oof => .oof
      else .err i 10
    else if isT (Zp l i) [125] then .ok (xs, i + 1, es, ts) else .err i 4
def bodyS (f : Nat) (nm : List Nat) (ps : List (List Nat)) (i dep : Nat) (es : List Ex) (ts : List Ty) : Res (Sc × Nat × List Ex × List Ty) :=
  if isT (Zp l i) [123] then
    match itemsS l f f [] (i + 1) dep es ts with
    | .ok (its, j, es', ts') => .ok (⟨nm, ps, its⟩, j, es', ts')
    | .err j e => .err j e
    | .oof => .oof
  else .err i 4
def XV (f i dep : Nat) (es : List Ex) (ts : List Ty) : Res (Sc × Nat × List Ex × List Ty) :=
  if isT (Zp l i) [115, 116, 114, 117, 99, 116] then
    if isN (Zp l (i + 1)) then
      if isT (Zp l (i + 2)) [40] then
        if isN (Zp l (i + 3)) then
          match Xw l f [(Zp l (i + 3)).s] (i + 4) with
          | .ok (ps, j) => bodyS l f (Zp l (i + 1)).s ps j dep es ts
          | .err j e => .err j e
          | .oof => .oof
        else .err (i + 3) 4
      else bodyS l f (Zp l (i + 1)).s [] (i + 2) dep es ts
    else .err (i + 1) 4
  else .err i 4
end
end
section
variable {tk : D} {l : List Tok} {lp : Nat} {h : H} {Q : D → H → Prop} {R : Pan}
abbrev FS (tk : D) (l : List Tok) (h : H) (lp lf : Nat) (dc ds de dt : D) (i dep : Nat) (es : List Ex) (ts : List Ty) (Q : D → H → Prop) (a : Sc × Nat × List Ex × List Ty) : Prop :=
  ∀ h' de' dt' dp di, SlR ExR 5 de' a.2.2.1 → SlR TyR 8 dt' a.2.2.2 → SlR StrR 1 dp a.1.params → SlR ItR 9 di a.1.items → dp.one = true → di.one = true → Tp h' 290 de' a.2.2.1.length → Tp h' 117 dt' a.2.2.2.length → (i < a.2.1 ∧ a.2.1 < l.length ∧ a.2.2.1.length + i ≤ es.length + a.2.1 ∧ a.2.2.2.length + i ≤ ts.length + a.2.1) → h.next ≤ h'.next → Bnd de' h'.next → Bnd dt' h'.next → FRT h h' lp lf de dt → Zg h'.mem lp = some (.cells 129 [tk, .int .i64 (.ofNat a.2.1), .int .i64 (.ofNat dep), .ptr lf 0]) → Zg h'.mem lf = some (.cells 108 [dc, ds, de', dt']) → ZW de' de h.next → ZW dt' dt h.next → Sep dt' de' → Sep de' dt' → Q (.agg [.str a.1.name, dp, di]) h'
abbrev CS (tk : D) (l : List Tok) (h : H) (lp : Nat) (S : Nat → Nat → List Ex → List Ty → Res (Sc × Nat × List Ex × List Ty)) (Q : D → H → Prop) (R : Pan) : Prop :=
  atP tk l (Zg h.mem lp) lp h.next fun i dep lf => (lf ≠ lp ∧ lf < h.next) ∧ atF (Zg h.mem lf) fun dc ds de dt => ∃ es, SlR ExR 5 de es ∧ ∃ ts, SlR TyR 8 dt ts ∧ Tp h 290 de es.length ∧ Tp h 117 dt ts.length ∧ (es.length ≤ i ∧ ts.length ≤ i) ∧ (ZQ de lp ∧ ZQ de lf ∧ ZQ dt lp ∧ ZQ dt lf) ∧ Sep dt de ∧
    RES (S i dep es ts) (FS tk l h lp lf dc ds de dt i dep es ts Q) (GT l h lp lf de dt R)
abbrev IM (tk : D) (l : List Tok) (h : H) (lp lf : Nat) (dc ds de dt : D) (i dep : Nat) (es : List Ex) (ts : List Ty) (f : Nat) (Q : D → H → Prop) (R : Pan) (n : Nat) (t1 : Tr D) (h1 : H) : Prop :=
  n ≤ f ∧ Gt 0 t1 = .ptr lp 0 ∧ Gt 2 t1 = .ptr h.next 0 ∧ ∃ lt, Gt 3 t1 = .ptr lt 0 ∧ ∃ nm, ∃ dp, ∃ da, Zg h1.mem lt = some (.cells 102 [.str nm, dp, da]) ∧ ∃ j, Zg h1.mem lp = some (.cells 129 [tk, .int .i64 (.ofNat j), .int .i64 (.ofNat dep), .ptr lf 0]) ∧ ∃ de1, ∃ dt1, Zg h1.mem lf = some (.cells 108 [dc, ds, de1, dt1]) ∧ ∃ z2, Zg h1.mem h.next = some (.cells 102 z2) ∧ z2.length = 3 ∧ ∃ es1, SlR ExR 5 de1 es1 ∧ ∃ ts1, SlR TyR 8 dt1 ts1 ∧ ∃ ps, SlR StrR 1 dp ps ∧ ∃ xs, SlR ItR 9 da xs ∧ D.same da da = true ∧ Tp h1 290 de1 es1.length ∧ Tp h1 117 dt1 ts1.length ∧ Tp h1 112 da xs.length ∧ Bnd de1 h1.next ∧ Bnd dt1 h1.next ∧ Bnd da h1.next ∧ h.next + 1 ≤ lt ∧ lt < h1.next ∧ ZQ de1 lt ∧ ZQ dt1 lt ∧ ZQ da lt ∧ ZQ de1 h.next ∧ ZQ dt1 h.next ∧ ZQ da h.next ∧ ZW da (.v (.slice none 0 0)) h.next ∧ Sep da de1 ∧ Sep de1 da ∧ Sep da dt1 ∧ Sep dt1 da ∧ xs.length ≤ j ∧ ZW de1 de h.next ∧ ZW dt1 dt h.next ∧ Sep dt1 de1 ∧ Sep de1 dt1 ∧ i < j ∧ j < l.length ∧ es1.length + i ≤ es.length + j ∧ ts1.length + i ≤ ts.length + j ∧ h.next ≤ h1.next ∧ FRT h h1 lp lf de dt ∧ RES (itemsS l f n xs j dep es1 ts1) (fun a => FS tk l h lp lf dc ds de dt i dep es ts Q (⟨nm, ps, a.1⟩, a.2.1, a.2.2.1, a.2.2.2)) (GT l h lp lf de dt R)
theorem RES_bind4 {α β γ δ ε : Type} {S : Res (α × β × γ × δ)} {g : α → β → γ → δ → ε} {F : ε → Prop} {G : Nat → Nat → Prop} : RES (match S with | .ok (a, b, c, d) => .ok (g a b c d) | .err j e => .err j e | .oof => .oof) F G ↔ RES S (fun a => F (g a.1 a.2.1 a.2.2.1 a.2.2.2)) G := by cases S <;> rfl
end
section
abbrev b76a : FC := (Z0 (Z0 (Z1 <| fo (fmv (Gt 0)) (St 18) <| fo (Zo 118 [(Gt 18), (kD (.str [44]))]) (St 19) <| Z2)
 (Z6 (Gt 19) Z9 (Yh 0)))
 (Zb 1 (Z0 (Z0 (Z1 <| fo (fmv (Gt 0)) (St 20) <| fo (Zo 119 [(Gt 20)]) (St 21) <| Z2)
 (Z6 (Gt 21) (Z1 <| fo (fmv (Gt 0)) (St 22) <| fo (u1 (YC 1) (Gt 3)) (St 23) <| fo (Zh (Gt 23)) (St 24) <| fo (u1 Xl (Gt 24)) (St 25) <| fo (Zo 75 [(Gt 22), (Gt 25), (kD (.int .i64 (.ofNat 64)))]) (St 26) <| Z2) Z9))
 (Y1 <| fdo (u1 (YC 1) (Gt 3)) (St 27) <| fdr 1 [] 1 (Gt 27) (Zh (Gt 27)) (St 28) <| fdo (fmv (Gt 0)) (St 29) <| fdp 3 [0, 1] (Zo 116 [(Gt 29)]) (St 30) <| fdo (Y6 9 1 [(.str [])] [(0, 1, (Gt 30))]) (St 31) <| fdl 5 [] (u2 (YY 9 1 16) (Gt 28) (Gt 31)) (St 32) <| fdo (u1 (YC 1) (Gt 3)) (St 33) <| fdl 7 [] (ZE 1 (Gt 33) (Gt 32)) p0 <| Y2))))
abbrev b76b : FC := (Z0 (Z0 (Z1 <| fo (fmv (Gt 0)) (St 38) <| fo (Zo 74 [(Gt 38), (kD (.str [112, 97, 99, 107]))]) (St 39) <| fo (fmv (Gt 39)) (St 40) <| fog (Gt 40) false (fmv (Gt 0)) (St 41) <| fog (Gt 40) false (Zo 119 [(Gt 41)]) (St 42) <| fo (ZO (Gt 40) (kD (.v (.bool true))) (Gt 42)) (St 43) <| Z2)
 (Z6 (Gt 43) Z9 (Yh 2)))
 (Zb 3 (Z0 (Z1 <| fo (fmv (Gt 0)) (St 44) <| fo (u1 (YC 2) (Gt 3)) (St 45) <| fo (Zh (Gt 45)) (St 46) <| fo (u1 Xl (Gt 46)) (St 47) <| fo (Zo 75 [(Gt 44), (Gt 47), (kD (.int .i64 (.ofNat 64)))]) (St 48) <| Z2)
 (Z0 (Z1 <| fo (fmv (Gt 0)) (St 49) <| fo (Zo 74 [(Gt 49), (kD (.str [112, 97, 99, 107]))]) (St 50) <| Z2)
 (Z6 (Gt 50) (Y1 <| fdo (u1 (YC 2) (Gt 3)) (St 51) <| fdr 1 [] 1 (Gt 51) (Zh (Gt 51)) (St 52) <| fdo (fmv (Gt 0)) (St 53) <| fdp 3 [0, 1] (Zo 120 [(Gt 53)]) (St 54) <| fdo (Y6 112 1 [(.str []), (.int .i64 (.ofNat 0)), (.int .i64 (.ofNat 0)), (.str []), (.str []), (.int .i64 (.ofNat 0)), (.int .i64 (.ofNat 0)), (.v (.bool false)), (.v (.slice none 0 0))] [(0, 9, (Gt 54))]) (St 55) <| fdl 5 [] (u2 (YY 112 9 112) (Gt 52) (Gt 55)) (St 56) <| fdo (u1 (YC 2) (Gt 3)) (St 57) <| fdl 7 [] (ZE 1 (Gt 57) (Gt 56)) p0 <| Y2) (Y1 <| fdo (u1 (YC 2) (Gt 3)) (St 58) <| fdr 1 [] 1 (Gt 58) (Zh (Gt 58)) (St 59) <| fdo (fmv (Gt 0)) (St 60) <| fdp 3 [0, 1] (Zo 121 [(Gt 60)]) (St 61) <| fdo (Y6 112 1 [(.str []), (.int .i64 (.ofNat 0)), (.int .i64 (.ofNat 0)), (.str []), (.str []), (.int .i64 (.ofNat 0)), (.int .i64 (.ofNat 0)), (.v (.bool false)), (.v (.slice none 0 0))] [(0, 9, (Gt 61))]) (St 62) <| fdl 5 [] (u2 (YY 112 9 112) (Gt 59) (Gt 62)) (St 63) <| fdo (u1 (YC 2) (Gt 3)) (St 64) <| fdl 7 [] (ZE 1 (Gt 64) (Gt 63)) p0 <| Y2))))))
variable {tk : D} {l : List Tok} {lp : Nat} {h : H} {Q : D → H → Prop} {R : Pan}
def Later2 (P : Prop) : Prop := P
@[congr] theorem Later2_congr {P : Prop} : Later2 P = Later2 P := rfl
theorem vp_loopM {a : FC} {t : Tr D} {Q : Aft} (I : Nat → Tr D → H → Prop) {n : Nat} (hi : I n t h) (hb : Later2 (∀ n t h, I n t h → VP E T a t h (Lloop I n Q) R)) : VP E T (Y3 a) t h Q R := vp_loop I hi hb
theorem slS_1 {id : Nat} {s : List Nat} : SlR StrR 1 (.sl id 1 [.str s]) [s] := ⟨[[.str s]], ⟨rfl, fun i y c h1 h2 => by
  cases i with
  | zero => simp at h1 h2; subst h1; subst h2; rfl
  | succ i => simp at h1⟩, by simp, .inr ⟨id, rfl, by simp⟩⟩
abbrev IQ (tk : D) (l : List Tok) (h : H) (lp lf : Nat) (dc ds de dt : D) (i dep : Nat) (es : List Ex) (ts : List Ty) (f : Nat) (Q : D → H → Prop) (R : Pan) (n : Nat) (t1 : Tr D) (h1 : H) : Prop :=
  n ≤ f ∧ Gt 0 t1 = .ptr lp 0 ∧ Gt 2 t1 = .ptr h.next 0 ∧ ∃ lt, Gt 3 t1 = .ptr lt 0 ∧ ∃ nm, ∃ da, Zg h1.mem lt = some (.cells 102 [.str nm, da, .v (.slice none 0 0)]) ∧ ∃ j, Zg h1.mem lp = some (.cells 129 [tk, .int .i64 (.ofNat j), .int .i64 (.ofNat dep), .ptr lf 0]) ∧ Zg h1.mem lf = some (.cells 108 [dc, ds, de, dt]) ∧ ∃ z2, Zg h1.mem h.next = some (.cells 102 z2) ∧ z2.length = 3 ∧ ∃ xs, SlR StrR 1 da xs ∧ D.same da da = true ∧ Tp h1 290 de es.length ∧ Tp h1 117 dt ts.length ∧ Tp h1 9 da xs.length ∧ Bnd da h1.next ∧ h.next + 1 ≤ lt ∧ lt < h1.next ∧ ZQ da lt ∧ ZQ da h.next ∧ ZW da (.v (.slice none 0 0)) h.next ∧ Sep da de ∧ Sep de da ∧ Sep da dt ∧ Sep dt da ∧ xs.length ≤ j ∧ i < j ∧ j < l.length ∧ h.next ≤ h1.next ∧ FRT h h1 lp lf de dt ∧ RES (Xw l n xs j) (fun a => RES (bodyS l f nm a.1 a.2 dep es ts) (FS tk l h lp lf dc ds de dt i dep es ts Q) (GT l h lp lf de dt R)) (GT l h lp lf de dt R)
theorem RES_bindR {α β γ : Type} {S : Res (α × β)} {g : α → β → Res γ} {F : γ → Prop} {G : Nat → Nat → Prop} : RES (match S with | .ok (a, b) => g a b | .err j e => .err j e | .oof => .oof) F G ↔ RES S (fun a => RES (g a.1 a.2) F G) G := by cases S <;> rfl
theorem vc76 (h77 : T 78 = q77) (h78 : T 79 = q78) (h73 : T 74 = q73) (h114 : T 115 = q114) (h117 : T 118 = q117) (h208 : T 209 = XJ) (h155 : T 156 = XL) (h154 : T 155 = XX) (h118 : T 119 = W1) (h115 : T 116 = q115) (h116 : T 117 = q116) (h257 : T 258 = q257) (h258 : T 259 = q258) (h261 : T 262 = q261) (h74 : T 75 = q74) (h119 : T 120 = q119) (h120 : T 121 = q120) (h76 : T 77 = q76) (tks : Toks tk l) {f : Nat}
    (ihI : ∀ {h : H} {Q : D → H → Prop} {R : Pan}, CI tk l h lp (fun i dep es ts => fieldS l f i dep es ts) Q R → VC E T 121 [.ptr lp 0] h Q R)
    (hq : CS tk l h lp (fun i dep es ts => XV l f i dep es ts) Q R) : VC E T 77 [.ptr lp 0] h Q R := by
  obtain ⟨i, dep, lf, hm, ⟨hi, hn⟩, ⟨n1, n2⟩, dc, ds, de, dt, hf, es, hE, ts, hY, hT, hU, ⟨hl, hl2⟩, ⟨s1, s2, s3, s4⟩, s5, hk⟩ := hq
  have s6 := sepS s5
  have hbd := hT.bnd
  have hbu := hU.bnd
  have hsm := tks.small
  refine Ya h76 ?_
  unfold ZV
  repeat' (with_reducible (first | refine Zk ?_ | refine Zl ?_ | refine ZG ?_ | refine ZF ?_ | refine Zn ?_ | refine Zd ?_ | refine Zm ?_ | refine ZH ?_ | refine Zy ?_ | refine Zi ?_ | refine Zz ?_ | refine vc115 h77 h78 h208 h155 h154 h118 h115 tks ?_ | refine vc117 h77 h73 h117 tks ?_ | refine vc114 h77 h78 h73 h114 tks ?_ | simp (maxSteps := 2000000) (disch := first | assumption | ((try refine Yy (by assumption) ?_); (show ZQ _ _; first | assumption | ((iterate 6 (try refine Zx (by assumption) (by omega) ?_)); first | assumption | exact Zw (by assumption) (by omega) | exact Zv (by assumption) (by assumption) | exact Zf | exact Y5 (by assumption) (by assumption) (by assumption) (by omega) (by assumption)))) | omega | (simp only [Z4, Z3, List.length_cons, List.length_nil, List.length_append, List.length_take, List.length_drop]; omega) | fail) only [go_sem, -Int.reduceOfNat, *, ZV, itC, CI, FI, FP, GP, FT, GT, IQ, IM, and_assoc, exists_and_left, D.str.injEq, Option.some.injEq, AObj.cells.injEq, D.int.injEq, D.ptr.injEq, Int.ofNat.injEq, exists_eq_left'] | ((first | refine ZL ?_ ?_ | refine ZC ?_ ?_ | refine ZK ?_ ?_ | refine ZA ?_ ?_ | refine ZB ?_ ?_ | refine Zj ?_ ?_) <;> intro _) | (refine W4 (a := b76a) (IQ tk l h lp lf dc ds de dt i dep es ts f Q R) (n := f) ?_ ?_) | (refine vp_loopM (a := b76b) (IM tk l h lp lf dc ds de dt i dep es ts f Q R) (n := f) ?_ ?_) | (refine Tp_mk ?_ ?_) | (refine bnd_sl ?_) | (refine iff_slN ?_) | (refine sep_sl ?_) | (refine sep_sl' ?_) | (refine nown_sl ?_) | exact slS_1 | exact str_same slS_1 | (refine ⟨_, slS_1, ?_⟩) | (refine ⟨_, SlR.nil, ?_⟩) | exact Tp.nil | (show Q _ _; simp only [XV, RES_bindR, ZN, ZD, Zu, if_true, if_false, List.cons.injEq, Nat.reduceLT, Nat.reduceLeDiff, List.length_nil, Bool.false_eq_true, Bool.true_eq_false, eq_self, Nat.reduceEqDiff, reduceCtorEq, true_or, or_true, or_self, false_or, or_false, not_true_eq_false, not_false_eq_true, and_true, true_and, and_false, false_and, *] at hk; refine hk _ _ _ _ _ (by assumption) (by assumption) (by assumption) (by assumption) (by assumption) (by assumption) ?_ ?_ ?_ ?_ ?_ ?_ ?_ ?_ ?_ ?_ ?_ ?_ ?_) | (show R _ _; simp only [XV, RES_bindR, ZN, ZD, Zu, if_true, if_false, List.cons.injEq, Nat.reduceLT, Nat.reduceLeDiff, List.length_nil, Bool.false_eq_true, Bool.true_eq_false, eq_self, Nat.reduceEqDiff, reduceCtorEq, true_or, or_true, or_self, false_or, or_false, not_true_eq_false, not_false_eq_true, and_true, true_and, and_false, false_and, *] at hk; refine hk _ ?_ ?_ ?_) | (show False; simp only [XV, RES_bindR, ZN, ZD, Zu, if_true, if_false, List.cons.injEq, Nat.reduceLT, Nat.reduceLeDiff, List.length_nil, Bool.false_eq_true, Bool.true_eq_false, eq_self, Nat.reduceEqDiff, reduceCtorEq, true_or, or_true, or_self, false_or, or_false, not_true_eq_false, not_false_eq_true, and_true, true_and, and_false, false_and, *] at hk) | (show Q _ _; simp only [XV, bodyS, RES_bind4, RES_bindR, ZN, ZD, Zu, if_true, if_false, List.cons.injEq, Nat.reduceLT, Nat.reduceLeDiff, List.length_nil, Bool.false_eq_true, Bool.true_eq_false, eq_self, Nat.reduceEqDiff, reduceCtorEq, true_or, or_true, or_self, false_or, or_false, not_true_eq_false, not_false_eq_true, and_true, true_and, and_false, false_and, *] at hk; refine hk _ _ _ _ _ (by assumption) (by assumption) (by assumption) (by assumption) (by assumption) (by assumption) ?_ ?_ ?_ ?_ ?_ ?_ ?_ ?_ ?_ ?_ ?_ ?_ ?_) | (show R _ _; simp only [XV, bodyS, RES_bind4, RES_bindR, ZN, ZD, Zu, if_true, if_false, List.cons.injEq, Nat.reduceLT, Nat.reduceLeDiff, List.length_nil, Bool.false_eq_true, Bool.true_eq_false, eq_self, Nat.reduceEqDiff, reduceCtorEq, true_or, or_true, or_self, false_or, or_false, not_true_eq_false, not_false_eq_true, and_true, true_and, and_false, false_and, *] at hk; refine hk _ ?_ ?_ ?_) | (show False; simp only [XV, bodyS, RES_bind4, RES_bindR, ZN, ZD, Zu, if_true, if_false, List.cons.injEq, Nat.reduceLT, Nat.reduceLeDiff, List.length_nil, Bool.false_eq_true, Bool.true_eq_false, eq_self, Nat.reduceEqDiff, reduceCtorEq, true_or, or_true, or_self, false_or, or_false, not_true_eq_false, not_false_eq_true, and_true, true_and, and_false, false_and, *] at hk) | (refine Yl ?_ ?_ ?_) | (refine RES_cases2 ?_ ?_ ?_) | (refine ZP ?_ ?_ ?_) | refine And.intro ?_ ?_ | (refine ZX (by assumption) ?_) | exact ZW.refl | (refine ZW.trans (by assumption) (by first | omega | (simp only [Z4, Z3]; omega)) ?_) | exact W5 | exact X6 | exact Y9 | (refine W6 (by assumption) (by assumption) (by first | omega | (simp only [Z4, Z3]; omega)) ?_) | (refine W0 (by assumption) (by assumption) (by first | omega | (simp only [Z4, Z3]; omega)) ?_) | (refine ⟨_, YU, ?_⟩) | (refine ⟨_, by assumption, ?_⟩) | (refine Tp.mono (by assumption) ?_ (fun _ _ _ => ?_)) | assumption | (show ZQ _ _; first | assumption | ((iterate 6 (try refine Zx (by assumption) (by omega) ?_)); first | assumption | exact Zw (by assumption) (by omega) | exact Zv (by assumption) (by assumption) | exact Zf | exact Y5 (by assumption) (by assumption) (by assumption) (by omega) (by assumption))) | (show _ < _; omega) | (show _ ≤ _; omega) | (show (_ : Nat) ≠ _; omega) | (show ¬ (_ : Nat) = _; omega) | (show (_ : Nat) = _; omega) | (intro _; intros) | (exact False.elim (by assumption)) | fail))
  all_goals first
  | (with_reducible show Later2 _)
  | (with_reducible show Later _
     rintro (_ | n) t1 h1 ⟨gn, g0, g2, lt, g3, nm, da, gm, j1, gl, gf, z2, gz, gz3, xs, gI, gsm, gT, gV, gU, w1, w2, w3, w4, w5, w6, w7, w8, w9, w10, w11, w12, w13, gnx, gfr, hk⟩
     · simp only [Xw, Zu] at hk
     have hmj := tks.more j1 w13
     have gone := XF gI
     have glen := gI.len
     repeat' (with_reducible (first | refine Zk ?_ | refine Zl ?_ | refine ZG ?_ | refine ZF ?_ | refine Zn ?_ | refine Zd ?_ | refine Zm ?_ | refine ZH ?_ | refine Zy ?_ | refine Zi ?_ | refine Zz ?_ | refine vc117 h77 h73 h117 tks ?_ | refine vc118 h77 h208 h155 h154 h118 tks ?_ | refine vc115 h77 h78 h208 h155 h154 h118 h115 tks ?_ | refine vc74 h77 h78 h74 tks ?_ | refine vc114 h77 h78 h73 h114 tks ?_ | refine vc78 h77 h78 tks ?_ | simp (maxSteps := 2000000) (disch := first | assumption | ((try refine Yy (by assumption) ?_); (show ZQ _ _; first | assumption | ((iterate 6 (try refine Zx (by assumption) (by omega) ?_)); first | assumption | exact Zw (by assumption) (by omega) | exact Zv (by assumption) (by assumption) | exact Zf | exact Y5 (by assumption) (by assumption) (by assumption) (by omega) (by assumption)))) | omega | (simp only [Z4, Z3, List.length_cons, List.length_nil, List.length_append, List.length_take, List.length_drop]; omega) | fail) only [go_sem, -Int.reduceOfNat, *, ZV, itC, CI, FI, FP, GP, FT, GT, IQ, IM, and_assoc, exists_and_left, D.str.injEq, Option.some.injEq, AObj.cells.injEq, D.int.injEq, D.ptr.injEq, Int.ofNat.injEq, exists_eq_left', gone, glen] | ((first | refine ZL ?_ ?_ | refine ZC ?_ ?_ | refine ZK ?_ ?_ | refine ZA ?_ ?_ | refine ZB ?_ ?_ | refine Zj ?_ ?_) <;> intro _) | (refine ⟨n, Nat.lt_succ_self n, ?_⟩) | (refine vL_app (F := StrR) (xs := xs) gI (Tp.mono gU ?_ (fun _ _ _ => ?_)) strR_mk ?_ ?_ ?_ ?_ ?_ ?_) | (refine vp_loopM (a := b76b) (IM tk l h lp lf dc ds de dt i dep es ts f Q R) (n := f) ?_ ?_) | exact str_same (by assumption) | (refine ⟨_, SlR.nil, ?_⟩) | exact Tp.nil | (show Q _ _; simp only [Xw, ZN, ZD, Zu, if_true, if_false, List.cons.injEq, Nat.reduceLT, Nat.reduceLeDiff, List.length_nil, Bool.false_eq_true, Bool.true_eq_false, eq_self, Nat.reduceEqDiff, reduceCtorEq, true_or, or_true, or_self, false_or, or_false, not_true_eq_false, not_false_eq_true, and_true, true_and, and_false, false_and, *] at hk; refine hk _ _ _ _ _ (by assumption) (by assumption) (by assumption) (by assumption) (by assumption) (by assumption) ?_ ?_ ?_ ?_ ?_ ?_ ?_ ?_ ?_ ?_ ?_ ?_ ?_) | (show R _ _; simp only [Xw, ZN, ZD, Zu, if_true, if_false, List.cons.injEq, Nat.reduceLT, Nat.reduceLeDiff, List.length_nil, Bool.false_eq_true, Bool.true_eq_false, eq_self, Nat.reduceEqDiff, reduceCtorEq, true_or, or_true, or_self, false_or, or_false, not_true_eq_false, not_false_eq_true, and_true, true_and, and_false, false_and, *] at hk; refine hk _ ?_ ?_ ?_) | (show False; simp only [Xw, ZN, ZD, Zu, if_true, if_false, List.cons.injEq, Nat.reduceLT, Nat.reduceLeDiff, List.length_nil, Bool.false_eq_true, Bool.true_eq_false, eq_self, Nat.reduceEqDiff, reduceCtorEq, true_or, or_true, or_self, false_or, or_false, not_true_eq_false, not_false_eq_true, and_true, true_and, and_false, false_and, *] at hk) | (show Q _ _; simp only [Xw, bodyS, RES_bind4, ZN, ZD, Zu, if_true, if_false, List.cons.injEq, Nat.reduceLT, Nat.reduceLeDiff, List.length_nil, Bool.false_eq_true, Bool.true_eq_false, eq_self, Nat.reduceEqDiff, reduceCtorEq, true_or, or_true, or_self, false_or, or_false, not_true_eq_false, not_false_eq_true, and_true, true_and, and_false, false_and, *] at hk; refine hk _ _ _ _ _ (by assumption) (by assumption) (by assumption) (by assumption) (by assumption) (by assumption) ?_ ?_ ?_ ?_ ?_ ?_ ?_ ?_ ?_ ?_ ?_ ?_ ?_) | (show R _ _; simp only [Xw, bodyS, RES_bind4, ZN, ZD, Zu, if_true, if_false, List.cons.injEq, Nat.reduceLT, Nat.reduceLeDiff, List.length_nil, Bool.false_eq_true, Bool.true_eq_false, eq_self, Nat.reduceEqDiff, reduceCtorEq, true_or, or_true, or_self, false_or, or_false, not_true_eq_false, not_false_eq_true, and_true, true_and, and_false, false_and, *] at hk; refine hk _ ?_ ?_ ?_) | (show False; simp only [Xw, bodyS, RES_bind4, ZN, ZD, Zu, if_true, if_false, List.cons.injEq, Nat.reduceLT, Nat.reduceLeDiff, List.length_nil, Bool.false_eq_true, Bool.true_eq_false, eq_self, Nat.reduceEqDiff, reduceCtorEq, true_or, or_true, or_self, false_or, or_false, not_true_eq_false, not_false_eq_true, and_true, true_and, and_false, false_and, *] at hk) | (refine Yl ?_ ?_ ?_) | (refine RES_cases2 ?_ ?_ ?_) | (refine ZP ?_ ?_ ?_) | refine And.intro ?_ ?_ | (refine ZX (by assumption) ?_) | exact ZW.refl | (refine ZW.trans (by assumption) (by first | omega | (simp only [Z4, Z3]; omega)) ?_) | exact W5 | exact X6 | exact Y9 | (refine W6 (by assumption) (by assumption) (by first | omega | (simp only [Z4, Z3]; omega)) ?_) | (refine W0 (by assumption) (by assumption) (by first | omega | (simp only [Z4, Z3]; omega)) ?_) | (refine ⟨_, YU, ?_⟩) | (refine ⟨_, by assumption, ?_⟩) | (refine Tp.mono (by assumption) ?_ (fun _ _ _ => ?_)) | assumption | (show ZQ _ _; first | assumption | ((iterate 6 (try refine Zx (by assumption) (by omega) ?_)); first | assumption | exact Zw (by assumption) (by omega) | exact Zv (by assumption) (by assumption) | exact Zf | exact Y5 (by assumption) (by assumption) (by assumption) (by omega) (by assumption))) | (show _ < _; omega) | (show _ ≤ _; omega) | (show (_ : Nat) ≠ _; omega) | (show ¬ (_ : Nat) = _; omega) | (show (_ : Nat) = _; omega) | (intro _; intros) | (exact False.elim (by assumption)) | fail)))
  all_goals
    unfold Later2
    rintro (_ | n) t1 h1 ⟨gn, g0, g2, lt, g3, nm, dp, da, gm, j1, gl, de1, dt1, gf, z2, gz, gz3, es1, gE, ts1, gY, ps, gP, xs, gI, gsm, gT, gV, gU, w1, w2, w3, w4, w5, w6, w7, w8, w9, wa, wb, wc, wd, we, wf, wg, w10, wh, wi, wj, wk, w11, w12, w13, w14, gnx, gfr, hk⟩
    · simp only [itemsS, Zu] at hk
    have hmj := tks.more j1 w12
    have gone := XF gI
    have gonp := XF gP
    have glen := gI.len
    repeat' (with_reducible (first | refine Zk ?_ | refine Zl ?_ | refine ZG ?_ | refine ZF ?_ | refine Zn ?_ | refine Zd ?_ | refine Zm ?_ | refine ZH ?_ | refine Zy ?_ | refine Zi ?_ | refine Zz ?_ | refine vc73 h77 h73 tks ?_ | refine vc118 h77 h208 h155 h154 h118 tks ?_ | refine vc74 h77 h78 h74 tks ?_ | refine vc114 h77 h78 h73 h114 tks ?_ | refine vc119 h77 h78 h73 h114 h117 h208 h155 h154 h118 h115 h116 h257 h258 h261 h74 h119 tks (g := f) ?_ | refine ihI ?_ | simp (maxSteps := 2000000) (disch := first | assumption | ((try refine Yy (by assumption) ?_); (show ZQ _ _; first | assumption | ((iterate 6 (try refine Zx (by assumption) (by omega) ?_)); first | assumption | exact Zw (by assumption) (by omega) | exact Zv (by assumption) (by assumption) | exact Zf | exact Y5 (by assumption) (by assumption) (by assumption) (by omega) (by assumption)))) | omega | (simp only [Z4, Z3, List.length_cons, List.length_nil, List.length_append, List.length_take, List.length_drop]; omega) | fail) only [go_sem, -Int.reduceOfNat, *, ZV, itC, CI, FI, FP, GP, FT, GT, IQ, IM, and_assoc, exists_and_left, D.str.injEq, Option.some.injEq, AObj.cells.injEq, D.int.injEq, D.ptr.injEq, Int.ofNat.injEq, exists_eq_left', gone, gonp, glen] | ((first | refine ZL ?_ ?_ | refine ZC ?_ ?_ | refine ZK ?_ ?_ | refine ZA ?_ ?_ | refine ZB ?_ ?_ | refine Zj ?_ ?_) <;> intro _) | (refine ⟨n, Nat.lt_succ_self n, ?_⟩) | (refine vL_app (F := ItR) (xs := xs) gI (Tp.mono gU ?_ (fun _ _ _ => ?_)) (itR_self (by assumption)) ?_ ?_ ?_ ?_ ?_ ?_) | exact it_same (by assumption) | (show Q _ _; simp only [itemsS, ZN, ZD, Zu, if_true, if_false, List.cons.injEq, Nat.reduceLT, Nat.reduceLeDiff, List.length_nil, Bool.false_eq_true, Bool.true_eq_false, eq_self, Nat.reduceEqDiff, reduceCtorEq, true_or, or_true, or_self, false_or, or_false, not_true_eq_false, not_false_eq_true, and_true, true_and, and_false, false_and, *] at hk; refine hk _ _ _ _ _ (by assumption) (by assumption) (by assumption) (by assumption) (by assumption) (by assumption) ?_ ?_ ?_ ?_ ?_ ?_ ?_ ?_ ?_ ?_ ?_ ?_ ?_) | (show R _ _; simp only [itemsS, ZN, ZD, Zu, if_true, if_false, List.cons.injEq, Nat.reduceLT, Nat.reduceLeDiff, List.length_nil, Bool.false_eq_true, Bool.true_eq_false, eq_self, Nat.reduceEqDiff, reduceCtorEq, true_or, or_true, or_self, false_or, or_false, not_true_eq_false, not_false_eq_true, and_true, true_and, and_false, false_and, *] at hk; refine hk _ ?_ ?_ ?_) | (show False; simp only [itemsS, ZN, ZD, Zu, if_true, if_false, List.cons.injEq, Nat.reduceLT, Nat.reduceLeDiff, List.length_nil, Bool.false_eq_true, Bool.true_eq_false, eq_self, Nat.reduceEqDiff, reduceCtorEq, true_or, or_true, or_self, false_or, or_false, not_true_eq_false, not_false_eq_true, and_true, true_and, and_false, false_and, *] at hk) | (refine Yl ?_ ?_ ?_) | (refine RES_cases2 ?_ ?_ ?_) | (refine ZP ?_ ?_ ?_) | refine And.intro ?_ ?_ | (refine ZX (by assumption) ?_) | exact ZW.refl | (refine ZW.trans (by assumption) (by first | omega | (simp only [Z4, Z3]; omega)) ?_) | exact W5 | exact X6 | exact Y9 | (refine W6 (by assumption) (by assumption) (by first | omega | (simp only [Z4, Z3]; omega)) ?_) | (refine W0 (by assumption) (by assumption) (by first | omega | (simp only [Z4, Z3]; omega)) ?_) | (refine ⟨_, YU, ?_⟩) | (refine ⟨_, by assumption, ?_⟩) | (refine Tp.mono (by assumption) ?_ (fun _ _ _ => ?_)) | assumption | (show ZQ _ _; first | assumption | ((iterate 6 (try refine Zx (by assumption) (by omega) ?_)); first | assumption | exact Zw (by assumption) (by omega) | exact Zv (by assumption) (by assumption) | exact Zf | exact Y5 (by assumption) (by assumption) (by assumption) (by omega) (by assumption))) | (show _ < _; omega) | (show _ ≤ _; omega) | (show (_ : Nat) ≠ _; omega) | (show ¬ (_ : Nat) = _; omega) | (show (_ : Nat) = _; omega) | (intro _; intros) | (exact False.elim (by assumption)) | fail))
  all_goals trace_state
end
section
def q44 : FFn := ffn ZV (fun t h => .ok (.tup []) h)
 (Zb 0 (Y3 (Zb 1 (Zb 2 (Z0 (Z1 <| mM 0 5 <| mK 74 [(Gt 5), (kS [99, 111, 110, 115, 116])] 6 <| mM 6 4 <| Z2)
 (Z6 (Gt 4) (Z0 (Z1 <| mM 0 7 <| mM 0 8 <| mN 8 9 <| mF 3 9 10 <| mL 10 11 <| mN 11 12 <| mF 0 12 13 <| mL 13 14 <| fo (u1 Xl (Gt 14)) (St 15) <| mK 75 [(Gt 7), (Gt 15), (kI 64)] 16 <| Z2)
 (Y1 <| fdo (fmv (Gt 0)) (St 17) <| fdo (u1 ZJ (Gt 17)) (St 18) <| fdo (u1 (YC 3) (Gt 18)) (St 19) <| fdr 3 [] 1 (Gt 19) (Zh (Gt 19)) (St 20) <| fdo (fmv (Gt 0)) (St 21) <| fdo (u1 ZJ (Gt 21)) (St 22) <| fdo (u1 (YC 3) (Gt 22)) (St 23) <| fdr 7 [0, 1, 2, 3] 1 (Gt 23) (Zh (Gt 23)) (St 24) <| fdo (u1 ZJ (Gt 24)) (St 25) <| fdo (u1 (YC 0) (Gt 25)) (St 26) <| fdr 10 [0, 1, 2, 3] 1 (Gt 26) (Zh (Gt 26)) (St 27) <| fdo (fmv (Gt 0)) (St 28) <| fdp 12 [0, 1, 2, 3, 4, 5, 6, 7, 8, 9, 10] (Zo 76 [(Gt 28)]) (St 29) <| fdo (Y6 177 1 [(.str []), (.int .u64 (.ofNat 0))] [(0, 2, (Gt 29))]) (St 30) <| fdl 14 [0, 1, 2, 3] (u2 (YY 177 2 24) (Gt 27) (Gt 30)) (St 31) <| fdo (u1 ZJ (Gt 20)) (St 32) <| fdo (u1 (YC 0) (Gt 32)) (St 33) <| fdl 17 [] (ZE 1 (Gt 33) (Gt 31)) p0 <| Y2)) (Z0 (Z1 <| mM 0 35 <| mK 74 [(Gt 35), (kS [115, 116, 114, 117, 99, 116])] 36 <| mM 36 34 <| Z2)
 (Z6 (Gt 34) (Z0 (Z1 <| mM 0 37 <| mM 0 38 <| mN 38 39 <| mF 3 39 40 <| mL 40 41 <| mN 41 42 <| mF 1 42 43 <| mL 43 44 <| fo (u1 Xl (Gt 44)) (St 45) <| mK 75 [(Gt 37), (Gt 45), (kI 64)] 46 <| Z2)
 (Y1 <| fdo (fmv (Gt 0)) (St 47) <| fdo (u1 ZJ (Gt 47)) (St 48) <| fdo (u1 (YC 3) (Gt 48)) (St 49) <| fdr 3 [] 1 (Gt 49) (Zh (Gt 49)) (St 50) <| fdo (fmv (Gt 0)) (St 51) <| fdo (u1 ZJ (Gt 51)) (St 52) <| fdo (u1 (YC 3) (Gt 52)) (St 53) <| fdr 7 [0, 1, 2, 3] 1 (Gt 53) (Zh (Gt 53)) (St 54) <| fdo (u1 ZJ (Gt 54)) (St 55) <| fdo (u1 (YC 1) (Gt 55)) (St 56) <| fdr 10 [0, 1, 2, 3] 1 (Gt 56) (Zh (Gt 56)) (St 57) <| fdo (fmv (Gt 0)) (St 58) <| fdp 12 [0, 1, 2, 3, 4, 5, 6, 7, 8, 9, 10] (Zo 77 [(Gt 58)]) (St 59) <| fdo (Y6 102 1 [(.str []), (.v (.slice none 0 0)), (.v (.slice none 0 0))] [(0, 3, (Gt 59))]) (St 60) <| fdl 14 [0, 1, 2, 3] (u2 (YY 102 3 64) (Gt 57) (Gt 60)) (St 61) <| fdo (u1 ZJ (Gt 50)) (St 62) <| fdo (u1 (YC 1) (Gt 62)) (St 63) <| fdl 17 [] (ZE 1 (Gt 63) (Gt 61)) p0 <| Y2)) (Z0 (Z1 <| mM 0 65 <| mK 78 [(Gt 65)] 66 <| fo (u1 (Xf false 0 1) (Gt 66)) (St 67) <| fo (mQ 170 67 3) (St 68) <| mM 68 64 <| Z2)
 (Z6 (Gt 64) Ze (Z1 <| mM 0 2 <| mK 79 [(Gt 2), (kI 4)] 3 <| Z2)))))))))))
variable {tk : D} {l : List Tok} {lp : Nat} {h : H} {Q : D → H → Prop} {R : Pan}
structure Co where
  name : List Nat
  n : Nat
  deriving Inhabited
def CoR (x : Co) (c : List D) : Prop := c = [.str x.name, .int .u64 (.ofNat x.n)]
theorem coR_mk {nm : List Nat} {n : Nat} : CoR ⟨nm, n⟩ [.str nm, .int .u64 (.ofNat n)] := rfl
theorem co_same {d : D} {xs : List Co} (hr : SlR CoR 2 d xs) : D.same d d = true := slR_same (fun x c h => by unfold CoR at h; subst h; simp only [Yw, Xd, Xn, YN, Bool.and_self]) hr
theorem sc_same {d : D} {xs : List Sc} (hr : SlR ScR 3 d xs) : D.same d d = true := slR_same (fun x c h => by
  obtain ⟨p, i, rfl, hp, hi, _, _⟩ := h
  simp only [Yw, Xn, str_same hp, it_same hi, YN, Bool.and_self]) hr
structure Fi where
  cs : List Co
  ss : List Sc
  es : List Ex
  ts : List Ty
  deriving Inhabited
section
variable (l : List Tok)
def wholeS (f : Nat) : Nat → List Co → List Sc → Nat → Nat → List Ex → List Ty → Res (Fi × Nat)
  | 0, _, _, _, _, _, _ => .oof
  | g + 1, cs, ss, i, dep, es, ts =>
    if isT (Zp l i) [99, 111, 110, 115, 116] then
      if cs.length < 64 then
        match constS l i with
        | .ok (nm, n, j) => wholeS f g (cs ++ [⟨nm, n⟩]) ss j dep es ts
        | .err j e => .err j e
        | .oof => .oof
      else .err i 10
    else if isT (Zp l i) [115, 116, 114, 117, 99, 116] then
      if ss.length < 64 then
        match XV l f i dep es ts with
        | .ok (x, j, es', ts') => wholeS f g cs (ss ++ [x]) j dep es' ts'
        | .err j e => .err j e
        | .oof => .oof
      else .err i 10
    else if (Zp l i).k = 3 then .ok (⟨cs, ss, es, ts⟩, i)
    else .err i 4
end
abbrev FRW (h h' : H) (lp lf : Nat) : Prop := ∀ l : Nat, l < h.next → l ≠ lp → l ≠ lf → Zg h'.mem l = Zg h.mem l
abbrev FW (tk : D) (dep : Nat) (h : H) (lp lf : Nat) (Q : D → H → Prop) (a : Fi × Nat) : Prop :=
  ∀ h' dc ds de dt, SlR CoR 2 dc a.1.cs → SlR ScR 3 ds a.1.ss → SlR ExR 5 de a.1.es → SlR TyR 8 dt a.1.ts → h.next ≤ h'.next → FRW h h' lp lf → Zg h'.mem lp = some (.cells 129 [tk, .int .i64 (.ofNat a.2), .int .i64 (.ofNat dep), .ptr lf 0]) → Zg h'.mem lf = some (.cells 108 [dc, ds, de, dt]) → Q (.tup []) h'
abbrev GW (l : List Tok) (h : H) (lp lf : Nat) (R : Pan) (j e : Nat) : Prop := ∀ h', j < l.length → h.next ≤ h'.next → FRW h h' lp lf → R (fault3 (Zp l j) e) h'
abbrev IW (tk : D) (l : List Tok) (h : H) (lp lf : Nat) (dep : Nat) (f : Nat) (Q : D → H → Prop) (R : Pan) (n : Nat) (t1 : Tr D) (h1 : H) : Prop :=
  n ≤ f ∧ Gt 0 t1 = .ptr lp 0 ∧ ∃ dc1, ∃ ds1, ∃ de1, ∃ dt1, Zg h1.mem lf = some (.cells 108 [dc1, ds1, de1, dt1]) ∧ ∃ j, Zg h1.mem lp = some (.cells 129 [tk, .int .i64 (.ofNat j), .int .i64 (.ofNat dep), .ptr lf 0]) ∧ ∃ cs1, SlR CoR 2 dc1 cs1 ∧ ∃ ss1, SlR ScR 3 ds1 ss1 ∧ ∃ es1, SlR ExR 5 de1 es1 ∧ ∃ ts1, SlR TyR 8 dt1 ts1 ∧ D.same dc1 dc1 = true ∧ D.same ds1 ds1 = true ∧ Tp h1 177 dc1 cs1.length ∧ Tp h1 102 ds1 ss1.length ∧ Tp h1 290 de1 es1.length ∧ Tp h1 117 dt1 ts1.length ∧ Bnd dc1 h1.next ∧ Bnd ds1 h1.next ∧ Bnd de1 h1.next ∧ Bnd dt1 h1.next ∧ ZQ dc1 lp ∧ ZQ dc1 lf ∧ ZQ ds1 lp ∧ ZQ ds1 lf ∧ ZQ de1 lp ∧ ZQ de1 lf ∧ ZQ dt1 lp ∧ ZQ dt1 lf ∧ ZW dc1 (.v (.slice none 0 0)) h.next ∧ ZW ds1 (.v (.slice none 0 0)) h.next ∧ ZW de1 (.v (.slice none 0 0)) h.next ∧ ZW dt1 (.v (.slice none 0 0)) h.next ∧ Sep dc1 ds1 ∧ Sep dc1 de1 ∧ Sep dc1 dt1 ∧ Sep ds1 dc1 ∧ Sep ds1 de1 ∧ Sep ds1 dt1 ∧ Sep de1 dc1 ∧ Sep de1 ds1 ∧ Sep de1 dt1 ∧ Sep dt1 dc1 ∧ Sep dt1 ds1 ∧ Sep dt1 de1 ∧ cs1.length ≤ j ∧ ss1.length ≤ j ∧ es1.length ≤ j ∧ ts1.length ≤ j ∧ j < l.length ∧ h.next ≤ h1.next ∧ FRW h h1 lp lf ∧ RES (wholeS l f n cs1 ss1 j dep es1 ts1) (FW tk dep h lp lf Q) (GW l h lp lf R)
theorem vc44 (h77 : T 78 = q77) (h78 : T 79 = q78) (h73 : T 74 = q73) (h114 : T 115 = q114) (h117 : T 118 = q117) (h208 : T 209 = XJ) (h155 : T 156 = XL) (h154 : T 155 = XX) (h118 : T 119 = W1) (h115 : T 116 = q115) (h116 : T 117 = q116) (h257 : T 258 = q257) (h258 : T 259 = q258) (h261 : T 262 = q261) (h74 : T 75 = q74) (h75 : T 76 = q75) (h76 : T 77 = q76) (h44 : T 45 = q44) (tks : Toks tk l) {f : Nat}
    (ihR : ∀ {h : H} {Q : D → H → Prop} {R : Pan}, CS tk l h lp (fun i dep es ts => XV l f i dep es ts) Q R → VC E T 77 [.ptr lp 0] h Q R)
    (hq : atP tk l (Zg h.mem lp) lp h.next fun i dep lf => (lf ≠ lp ∧ lf < h.next) ∧ Zg h.mem lf = some (.cells 108 [(.v (.slice none 0 0)), (.v (.slice none 0 0)), (.v (.slice none 0 0)), (.v (.slice none 0 0))]) ∧ RES (wholeS l f f [] [] i dep [] []) (FW tk dep h lp lf Q) (GW l h lp lf R)) : VC E T 45 [.ptr lp 0] h Q R := by
  obtain ⟨i, dep, lf, hm, ⟨hi, hn⟩, ⟨n1, n2⟩, hf, hk⟩ := hq
  have hsm := tks.small
  refine Ya h44 ?_
  unfold ZV
  repeat' (with_reducible (first | refine Zk ?_ | refine Zl ?_ | refine ZG ?_ | refine ZF ?_ | refine Zn ?_ | refine Zd ?_ | refine Zm ?_ | refine ZH ?_ | refine Zy ?_ | refine Zi ?_ | refine Zz ?_ | simp (maxSteps := 2000000) (disch := first | assumption | ((try refine Yy (by assumption) ?_); (show ZQ _ _; first | assumption | ((iterate 6 (try refine Zx (by assumption) (by omega) ?_)); first | assumption | exact Zw (by assumption) (by omega) | exact Zv (by assumption) (by assumption) | exact Zf | exact Y5 (by assumption) (by assumption) (by assumption) (by omega) (by assumption)))) | omega | (simp only [Z4, Z3, List.length_cons, List.length_nil, List.length_append, List.length_take, List.length_drop]; omega) | fail) only [go_sem, -Int.reduceOfNat, *, ZV, CS, FS, GT, IW, and_assoc, exists_and_left, D.str.injEq, Option.some.injEq, AObj.cells.injEq, D.int.injEq, D.ptr.injEq, Int.ofNat.injEq, exists_eq_left'] | ((first | refine ZL ?_ ?_ | refine ZC ?_ ?_ | refine ZK ?_ ?_ | refine ZA ?_ ?_ | refine ZB ?_ ?_ | refine Zj ?_ ?_) <;> intro _) | (refine W4 (IW tk l h lp lf dep f Q R) (n := f) ?_ ?_) | (refine ⟨_, SlR.nil, ?_⟩) | exact Tp.nil | exact SlR.nil | (refine Yl ?_ ?_ ?_) | (refine ZP ?_ ?_ ?_) | (refine RES_cases2 ?_ ?_ ?_) | (refine ZP ?_ ?_ ?_) | refine And.intro ?_ ?_ | (refine ZX (by assumption) ?_) | exact ZW.refl | (refine ZW.trans (by assumption) (by first | omega | (simp only [Z4, Z3]; omega)) ?_) | exact W5 | exact X6 | exact Y9 | (refine W6 (by assumption) (by assumption) (by first | omega | (simp only [Z4, Z3]; omega)) ?_) | (refine W0 (by assumption) (by assumption) (by first | omega | (simp only [Z4, Z3]; omega)) ?_) | (refine ⟨_, YU, ?_⟩) | (refine ⟨_, by assumption, ?_⟩) | (refine Tp.mono (by assumption) ?_ (fun _ _ _ => ?_)) | assumption | (show ZQ _ _; first | assumption | ((iterate 6 (try refine Zx (by assumption) (by omega) ?_)); first | assumption | exact Zw (by assumption) (by omega) | exact Zv (by assumption) (by assumption) | exact Zf | exact Y5 (by assumption) (by assumption) (by assumption) (by omega) (by assumption))) | (show _ < _; omega) | (show _ ≤ _; omega) | (show (_ : Nat) ≠ _; omega) | (show ¬ (_ : Nat) = _; omega) | (show (_ : Nat) = _; omega) | (intro _; intros) | (exact False.elim (by assumption)) | fail))
  all_goals
    rintro (_ | n) t1 h1 ⟨gn, g0, dc1, ds1, de1, dt1, gf, j1, gl, cs1, gC, ss1, gS, es1, gE, ts1, gY, gsc, gss, gTc, gTs, gTe, gTt, bc, bs, be, bt, ncp, ncf, nsp, nsf, nep, nef, ntp, ntf, ic, is, ie, it, s0, s1, s2, s3, s4, s5, s6, s7, s8, s9, s10, s11, w1, w2, w3, w4, w5, gnx, gfr, hk⟩
    · simp only [wholeS, Zu] at hk
    have hmj := tks.more j1 w5
    have gonc := XF gC
    have gons := XF gS
    have glec := gC.len
    have gles := gS.len
    repeat' (with_reducible (first | refine Zk ?_ | refine Zl ?_ | refine ZG ?_ | refine ZF ?_ | refine Zn ?_ | refine Zd ?_ | refine Zm ?_ | refine ZH ?_ | refine Zy ?_ | refine Zi ?_ | refine Zz ?_ | refine vc73 h77 h73 tks ?_ | refine vc77 h77 tks ?_ | refine vc74 h77 h78 h74 tks ?_ | refine vc78 h77 h78 tks ?_ | refine vc75 h77 h78 h73 h114 h117 h208 h155 h154 h118 h115 h116 h257 h258 h261 h75 tks ?_ | refine ihR ?_ | simp (maxSteps := 2000000) (disch := first | assumption | ((try refine Yy (by assumption) ?_); (show ZQ _ _; first | assumption | ((iterate 6 (try refine Zx (by assumption) (by omega) ?_)); first | assumption | exact Zw (by assumption) (by omega) | exact Zv (by assumption) (by assumption) | exact Zf | exact Y5 (by assumption) (by assumption) (by assumption) (by omega) (by assumption)))) | omega | (simp only [Z4, Z3, List.length_cons, List.length_nil, List.length_append, List.length_take, List.length_drop]; omega) | fail) only [go_sem, -Int.reduceOfNat, *, ZV, CS, FS, GT, IW, and_assoc, exists_and_left, D.str.injEq, Option.some.injEq, AObj.cells.injEq, D.int.injEq, D.ptr.injEq, Int.ofNat.injEq, exists_eq_left', gonc, gons, glec, gles] | ((first | refine ZL ?_ ?_ | refine ZC ?_ ?_ | refine ZK ?_ ?_ | refine ZA ?_ ?_ | refine ZB ?_ ?_ | refine Zj ?_ ?_) <;> intro _) | (refine ⟨n, Nat.lt_succ_self n, ?_⟩) | (refine vL_app (F := CoR) (xs := cs1) gC (Tp.mono gTc ?_ (fun _ _ _ => ?_)) coR_mk ?_ ?_ ?_ ?_ ?_ ?_) | (refine vL_app (F := ScR) (xs := ss1) gS (Tp.mono gTs ?_ (fun _ _ _ => ?_)) (scR_mk (by assumption) (by assumption)) ?_ ?_ ?_ ?_ ?_ ?_) | exact co_same (by assumption) | exact sc_same (by assumption) | (show Q _ _; simp only [wholeS, ZN, ZD, Zu, if_true, if_false, List.cons.injEq, Nat.reduceLT, Nat.reduceLeDiff, List.length_nil, Bool.false_eq_true, Bool.true_eq_false, eq_self, Nat.reduceEqDiff, reduceCtorEq, true_or, or_true, or_self, false_or, or_false, not_true_eq_false, not_false_eq_true, and_true, true_and, and_false, false_and, *] at hk; refine hk _ _ _ _ _ (by assumption) (by assumption) (by assumption) (by assumption) ?_ ?_ ?_ ?_) | (show R _ _; simp only [wholeS, ZN, ZD, Zu, if_true, if_false, List.cons.injEq, Nat.reduceLT, Nat.reduceLeDiff, List.length_nil, Bool.false_eq_true, Bool.true_eq_false, eq_self, Nat.reduceEqDiff, reduceCtorEq, true_or, or_true, or_self, false_or, or_false, not_true_eq_false, not_false_eq_true, and_true, true_and, and_false, false_and, *] at hk; refine hk _ ?_ ?_ ?_) | (show False; simp only [wholeS, ZN, ZD, Zu, if_true, if_false, List.cons.injEq, Nat.reduceLT, Nat.reduceLeDiff, List.length_nil, Bool.false_eq_true, Bool.true_eq_false, eq_self, Nat.reduceEqDiff, reduceCtorEq, true_or, or_true, or_self, false_or, or_false, not_true_eq_false, not_false_eq_true, and_true, true_and, and_false, false_and, *] at hk) | (refine Yl ?_ ?_ ?_) | (refine ZP ?_ ?_ ?_) | (refine RES_cases2 ?_ ?_ ?_) | (refine ZP ?_ ?_ ?_) | refine And.intro ?_ ?_ | (refine ZX (by assumption) ?_) | exact ZW.refl | (refine ZW.trans (by assumption) (by first | omega | (simp only [Z4, Z3]; omega)) ?_) | exact W5 | exact X6 | exact Y9 | (refine W6 (by assumption) (by assumption) (by first | omega | (simp only [Z4, Z3]; omega)) ?_) | (refine W0 (by assumption) (by assumption) (by first | omega | (simp only [Z4, Z3]; omega)) ?_) | (refine ⟨_, YU, ?_⟩) | (refine ⟨_, by assumption, ?_⟩) | (refine Tp.mono (by assumption) ?_ (fun _ _ _ => ?_)) | assumption | (show ZQ _ _; first | assumption | ((iterate 6 (try refine Zx (by assumption) (by omega) ?_)); first | assumption | exact Zw (by assumption) (by omega) | exact Zv (by assumption) (by assumption) | exact Zf | exact Y5 (by assumption) (by assumption) (by assumption) (by omega) (by assumption))) | (show _ < _; omega) | (show _ ≤ _; omega) | (show (_ : Nat) ≠ _; omega) | (show ¬ (_ : Nat) = _; omega) | (show (_ : Nat) = _; omega) | (intro _; intros) | (exact False.elim (by assumption)) | fail))
  all_goals trace_state
end
end Run
end Go.Abs
