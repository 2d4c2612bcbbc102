/- The tokens of a text: specification, walks of the program. -/
import Derived.Test.YtgpdodcbkajfgaaGreatDoorNeW
import Derived.Test.YtgpdodcbkajfgaaGreatDoorNeA
set_option linter.unusedVariables false
set_option linter.unusedSimpArgs false
namespace Go.Abs
namespace Run
variable {E : Env} {T : Nat → FFn}
set_option maxHeartbeats 4000000
set_option maxRecDepth 100000
attribute [local go_sem] vr_mv vr_len vr_fa vr_nil vr_ext vr_not vr_ixs vr_sl vr_ld1 vr_ldN vr_st vr_alloc vr_box vr_mkmap vr_int vr_pick vr_build Wd vr_look vr_mk vr_app vr_sbin vr_fog vr_end vr_b2s vr_lens vr_slstr vr_cint vr_fld vr_iface vr_panic vr_mkf vr_idxs vr_idxa vd_mv vd_fa vd_nil vd_ext vd_ixs vd_alloc vd_build We vd_ld1 vd_ldN vd_st vd_mset vd_app vd_int vd_end vd_cint vd_fld vd_mkf vd_fdg vd_not vd_pick vd_len vd_lens vd_box vd_sbin vd_idxs vO_ok vO_pan vD_ok vRd_ok vL_ok vB_t vB_f vG_t vG_f vDg_t vDg_f lseq_n lseq_r lseq_e kblk_n kblk_r kblk_e lfn_n lfn_r lloop_n lloop_e lloop_r sC_ok lroll_n lroll_e lroll_r oFa_ptr oFa_ep oNil_ptr oNil_ep oLen_sl oLen_row oLen_nil oExt_0 oExt_1 oExt_2 okq_some oNot_bool oSl_nil rc_ptr rc_ep oRd_c oEp oLd1_some oLdN_some oStw_eq oStw_c oInt_int oPick_b XO Xj ffill_nil oFill_some ffill patch oFind_some oFind_none oOne_some oTwo_some cfin_one cfin_two wanted_t wanted_f wanted_u evs_nil evs_cons fargs_nil fargs_cons oLens_str oB2s_nil oApp_unf oApp_unil oSame_some Xv loudOk_rdS mem_cons loudT readT sames_one Option.map_some Option.map_none oCint_n oHd_cons oAg_some oFld_agg oPan_i oEq_str oNe_strs oIdxa_f oPart_some oAdd_str cells_int cells_str cells_agg cells_sl cells_row cells_map cells_ptr cells_bool cells_nil one_nil one_cons one_int one_str one_sl one_row one_map one_ptr one_bool one_vnil Yc dneq dlss dleq dgtr W9 iEq_n iLt_n iLe XY blt_dec ble_dec mem_nil readOk_nil readOk_rd loudOk_nil XP Xt add_small sub_small beqL_dec List.drop_succ_cons List.drop_zero List.drop_nil List.take_succ_cons List.take_zero List.take_nil List.length_cons List.length_nil List.length_append List.cons_append List.nil_append Nat.reduceAdd Nat.reduceEqDiff Nat.reduceLeDiff Nat.reduceLT List.cons.injEq reduceCtorEq eq_self not_true_eq_false not_false_eq_true and_false false_and true_or or_true decide_true decide_false Bool.and_self Bool.and_true Bool.true_and Bool.true_or Bool.or_true Bool.false_or Bool.or_false Bool.false_and Bool.and_false Bool.not_true Bool.not_false cond_true cond_false true_and and_true Gt_St p0_eq kD_eq reduceIte Nat.add_zero Nat.zero_add Nat.add_sub_cancel Nat.reduceMul Nat.reduceSub Nat.reduceBEq List.map_cons List.map_nil Z4 Z3 XR YA X7 Yi vCd_func vCd_v Zf YN Yw same_nil same_ptr Xd Xn YS tokC atF_some ZN ZD Zu vr_s2b oS2b_str oIxs_by oIdxs_s oSl_lo oSl_hi oSl_lh vd_slstr
section
def q110 : FFn := ffn ZV (fun t h => .ok (Gt 4 t) h)
 (Z0 (Z1 <| fo (fmv (kI 0)) (St 4) <| Z2)
 (Z0 (Z1 <| mM 0 5 <| fo (u1 Xo (Gt 5)) (St 6) <| mM 0 7 <| mM 1 8 <| mK 150 [(Gt 7), (Gt 8)] 9 <| fo (u1 Xo (Gt 9)) (St 10) <| fo (Zc dsub .sub 3 (.tmp 6) (.tmp 10) (Gt 6) (Gt 10)) (St 11) <| mM 11 4 <| Z2)
 Ze))
def q150 : FFn := ffn ZV (fun t h => .ok (Gt 4 t) h)
 (Z0 (Z1 <| fo (fmv (kD (.v (.bool false)))) (St 4) <| Z2)
 (Z0 (Z1 <| mM 0 5 <| fo (u1 Xo (Gt 5)) (St 6) <| mM 1 7 <| fo (u1 Xo (Gt 7)) (St 8) <| fo (Zc W9 .geq 3 (.tmp 6) (.tmp 8) (Gt 6) (Gt 8)) (St 9) <| mM 9 10 <| fog (Gt 10) true (fmv (Gt 0)) (St 11) <| fog (Gt 10) true (fmv (Gt 1)) (St 12) <| fog (Gt 10) true (u1 Xo (Gt 12)) (St 13) <| fog (Gt 10) true (Xy (Gt 11) none (some (Gt 13))) (St 14) <| fog (Gt 10) true (fmv (Gt 1)) (St 15) <| fog (Gt 10) true (Zc Yc .eql 9 (.tmp 14) (.tmp 15) (Gt 14) (Gt 15)) (St 16) <| fo (ZO (Gt 10) (Gt 16) (kD (.v (.bool false)))) (St 17) <| mM 17 4 <| Z2)
 Ze))
def q111 : FFn := ffn ZV (fun t h => .ok (Gt 4 t) h)
 (Z0 (Z1 <| fo (fmv (kD (.v (.bool false)))) (St 4) <| Z2)
 (Z0 (Z1 <| mM 0 5 <| mM 1 6 <| mK 151 [(Gt 5), (Gt 6)] 7 <| mM 7 4 <| Z2)
 Ze))
def q72 : FFn := ffn ZV (fun t h => .ok (.tup []) h)
 (Z0 (Z0 (Z1 <| mM 0 6 <| mN 6 7 <| mF 0 7 8 <| mL 8 9 <| mM 1 10 <| fo (Xy (Gt 9) none (some (Gt 10))) (St 11) <| fo (u1 (r_s2b 5) (Gt 11)) (St 12) <| fo (u1 Xl (Gt 12)) (St 13) <| fo (fmv (kI 0)) (St 14) <| Z2)
 (Zb 0 (Y3 (Z0 (Z1 <| fo (Zc dlss .lss 3 (.tmp 14) (.tmp 13) (Gt 14) (Gt 13)) (St 15) <| Z2)
 (Z0 (Z6 (Gt 15) Z9 (Yh 0))
 (Z0 (Zb 1 (Z0 (Z1 <| fo (u2 (r_ixs 1) (Gt 12) (Gt 14)) (St 16) <| mL 16 17 <| mM 17 5 <| Z2)
 (Z0 (Z1 <| mM 0 18 <| mN 18 19 <| mF 1 19 20 <| mF 1 20 21 <| mL 21 22 <| fo (Zc Y7 .add 3 (.tmp 22) (.const (.int .i64 (.ofNat 1))) (Gt 22) (kI 1)) (St 23) <| mN 18 24 <| mF 1 24 25 <| mF 1 25 26 <| mS 26 (Gt 23) <| Z2)
 (Z0 (Z1 <| mM 5 27 <| fo (u2 XD (kS [10]) (kI 0)) (St 28) <| fo (Zc Yc .eql 5 (.tmp 27) (.tmp 28) (Gt 27) (Gt 28)) (St 29) <| Z2)
 (Z6 (Gt 29) (Z1 <| mM 0 30 <| mM 0 31 <| mN 31 32 <| mF 1 32 33 <| mF 0 33 34 <| mL 34 35 <| fo (Zc Y7 .add 3 (.tmp 35) (.const (.int .i64 (.ofNat 1))) (Gt 35) (kI 1)) (St 36) <| fo (ZR [(.int .i64 (.ofNat 0)), (.int .i64 (.ofNat 0))] [(0, 1, (Gt 36)), (1, 1, (kI 1))]) (St 37) <| mN 30 38 <| mF 1 38 39 <| fo (ZE 2 (Gt 39) (Gt 37)) p0 <| Z2) Z9)))))
 (Z1 <| fo (Zc Y7 .add 3 (.tmp 14) (.const (.int .i64 (.ofNat 1))) (Gt 14) (kI 1)) (St 40) <| mM 40 14 <| Z2)))))))
 (Z1 <| mM 0 41 <| mM 0 42 <| mN 42 43 <| mF 0 43 44 <| mL 44 45 <| mM 1 46 <| fo (Xy (Gt 45) (some (Gt 46)) none) (St 47) <| mN 41 48 <| mF 0 48 49 <| mS 49 (Gt 47) <| Z2))
def q70 : FFn := ffn ZV (fun t h => .ok (.tup []) h)
 (Zb 0 (Y3 (Zb 1 (Z0 (Z1 <| mM 0 6 <| mN 6 7 <| mF 0 7 8 <| mL 8 9 <| mK 111 [(Gt 9), (kS [32, 9, 10, 13])] 10 <| mM 10 2 <| Z2)
 (Z0 (Z0 (Z1 <| mM 0 11 <| mN 11 12 <| mF 0 12 13 <| mL 13 14 <| mK 112 [(Gt 14), (kS [47, 47])] 15 <| Z2)
 (Z6 (Gt 15) (Z0 (Z1 <| mM 0 17 <| mN 17 18 <| mF 0 18 19 <| mL 19 20 <| mK 113 [(Gt 20), (kS [10])] 21 <| mM 21 16 <| mE 0 16 22 <| mE 1 16 23 <| mE 2 16 24 <| mM 22 3 <| mM 23 4 <| mM 24 5 <| Z2)
 (Z1 <| mM 3 25 <| fo (u1 Xo (Gt 25)) (St 26) <| mM 26 2 <| Z2)) Z9))
 (Z0 (Z0 (Z1 <| mM 2 27 <| fo (mQ 3 27 0) (St 28) <| Z2)
 (Z6 (Gt 28) Ze Z9))
 (Z1 <| mM 0 29 <| mM 2 30 <| mK 73 [(Gt 29), (Gt 30)] 31 <| Z2)))))))
def q71 : FFn := ffn ZV (fun t h => YR ⟨[.cN 2 5, .t 3], .skip⟩ (act t) h)
 (Z0 (Z1 <| fo (Zr 172 [(.int .i64 (.ofNat 0)), (.str []), (.int .u64 (.ofNat 0)), (.int .i64 (.ofNat 0)), (.int .i64 (.ofNat 0))]) (St 2) <| fo (fmv (kI 0)) (St 3) <| Z2)
 (Z0 (Z0 (Z1 <| mM 0 8 <| mN 8 9 <| mF 0 9 10 <| mL 10 11 <| mK 111 [(Gt 11), (kS [65, 66, 67, 68, 69, 70, 71, 72, 73, 74, 75, 76, 77, 78, 79, 80, 81, 82, 83, 84, 85, 86, 87, 88, 89, 90, 97, 98, 99, 100, 101, 102, 103, 104, 105, 106, 107, 108, 109, 110, 111, 112, 113, 114, 115, 116, 117, 118, 119, 120, 121, 122, 95, 48, 49, 50, 51, 52, 53, 54, 55, 56, 57])] 12 <| mM 12 4 <| Z2)
 (Z0 (Z1 <| mM 4 13 <| fo (Zc dgtr .gtr 3 (.tmp 13) (.const (.int .i64 (.ofNat 0))) (Gt 13) (kI 0)) (St 14) <| Z2)
 (Z6 (Gt 14) (Z0 (Z1 <| mM 0 15 <| mN 15 16 <| mF 0 16 17 <| mL 17 18 <| mM 4 19 <| fo (Xy (Gt 18) none (some (Gt 19))) (St 20) <| mM 20 5 <| Z2)
 (Z0 (Zb 0 (Z0 (Z1 <| mM 5 22 <| mK 111 [(Gt 22), (kS [48, 49, 50, 51, 52, 53, 54, 55, 56, 57])] 23 <| fo (Zc dgtr .gtr 3 (.tmp 23) (.const (.int .i64 (.ofNat 0))) (Gt 23) (kI 0)) (St 24) <| mM 24 21 <| Z2)
 (Z6 (Gt 21) (Z0 (Z1 <| mM 5 25 <| mK 114 [(Gt 25)] 26 <| mE 0 26 27 <| mE 1 26 28 <| fo (ZE 5 (Gt 2) (Gt 27)) p0 <| mM 28 3 <| Z2)
 Ze) (Z0 (Z1 <| mM 4 30 <| fo (Zc dgtr .gtr 3 (.tmp 30) (.const (.int .i64 (.ofNat 32))) (Gt 30) (kI 32)) (St 31) <| mM 31 29 <| Z2)
 (Z6 (Gt 29) (Z0 (Z1 <| fo (ZR [(.int .i64 (.ofNat 0)), (.str []), (.int .u64 (.ofNat 0)), (.int .i64 (.ofNat 0)), (.int .i64 (.ofNat 0))] []) (St 32) <| fo (ZE 5 (Gt 2) (Gt 32)) p0 <| fo (fmv (kI 7)) (St 3) <| Z2)
 Ze) Z9)))))
 (Z0 (Z1 <| mM 5 33 <| fo (ZR [(.int .i64 (.ofNat 0)), (.str []), (.int .u64 (.ofNat 0)), (.int .i64 (.ofNat 0)), (.int .i64 (.ofNat 0))] [(0, 1, (kI 0)), (1, 1, (Gt 33))]) (St 34) <| fo (ZE 5 (Gt 2) (Gt 34)) p0 <| fo (fmv (kI 0)) (St 3) <| Z2)
 Ze))) Z9)))
 (Z0 (Z0 (Z1 <| fo (ZT 29 (kD (.ep [(.str [46, 46]), (.str [61, 61]), (.str [33, 61]), (.str [60, 61]), (.str [62, 61]), (.str [60, 60]), (.str [62, 62]), (.str [38, 38]), (.str [124, 124]), (.str [123]), (.str [125]), (.str [40]), (.str [41]), (.str [91]), (.str [93]), (.str [59]), (.str [58]), (.str [44]), (.str [61]), (.str [60]), (.str [62]), (.str [43]), (.str [45]), (.str [42]), (.str [47]), (.str [37]), (.str [38]), (.str [124]), (.str [33])]))) (St 35) <| fo (fmv (kI 0)) (St 36) <| Z2)
 (Zb 1 (Y3 (Z0 (Z1 <| fo (Zc dlss .lss 3 (.tmp 36) (.const (.int .i64 (.ofNat 29))) (Gt 36) (kI 29)) (St 37) <| Z2)
 (Z0 (Z6 (Gt 37) Z9 (Yh 1))
 (Z0 (Zb 2 (Z0 (Z1 <| fo (u2 (r_idxa false 29 1) (Gt 35) (Gt 36)) (St 38) <| mM 38 7 <| Z2)
 (Z0 (Z1 <| mM 0 39 <| mN 39 40 <| mF 0 40 41 <| mL 41 42 <| mM 7 43 <| mK 112 [(Gt 42), (Gt 43)] 44 <| Z2)
 (Z6 (Gt 44) (Z0 (Z1 <| mM 7 45 <| fo (ZR [(.int .i64 (.ofNat 0)), (.str []), (.int .u64 (.ofNat 0)), (.int .i64 (.ofNat 0)), (.int .i64 (.ofNat 0))] [(0, 1, (kI 2)), (1, 1, (Gt 45))]) (St 46) <| fo (ZE 5 (Gt 2) (Gt 46)) p0 <| fo (fmv (kI 0)) (St 3) <| Z2)
 Ze) Z9))))
 (Z1 <| fo (Zc Y7 .add 3 (.tmp 36) (.const (.int .i64 (.ofNat 1))) (Gt 36) (kI 1)) (St 47) <| mM 47 36 <| Z2)))))))
 (Z0 (Z1 <| fo (ZR [(.int .i64 (.ofNat 0)), (.str []), (.int .u64 (.ofNat 0)), (.int .i64 (.ofNat 0)), (.int .i64 (.ofNat 0))] []) (St 48) <| fo (ZE 5 (Gt 2) (Gt 48)) p0 <| fo (fmv (kI 4)) (St 3) <| Z2)
 Ze))))
def q42 : FFn := ffn ZV (fun t h => YR ⟨[.t 2, .cN 3 2, .t 4], .skip⟩ (act t) h)
 (Z0 (Z1 <| fo (fmv (kD (.v (.slice none 0 0)))) (St 2) <| fo (Zr 66 [(.int .i64 (.ofNat 0)), (.int .i64 (.ofNat 0))]) (St 3) <| fo (fmv (kI 0)) (St 4) <| Z2)
 (Z0 (Z0 (Z1 <| mM 0 9 <| fo (u1 Xo (Gt 9)) (St 10) <| fo (Zc dgtr .gtr 3 (.tmp 10) (.const (.int .i64 (.ofNat 16384))) (Gt 10) (kI 16384)) (St 11) <| Z2)
 (Z6 (Gt 11) (Z0 (Z1 <| fo (ZR [(.int .i64 (.ofNat 0)), (.int .i64 (.ofNat 0))] [(0, 1, (kI 1)), (1, 1, (kI 1))]) (St 12) <| fo (fmv (kD (.v (.slice none 0 0)))) (St 2) <| fo (ZE 2 (Gt 3) (Gt 12)) p0 <| fo (fmv (kI 7)) (St 4) <| Z2)
 Ze) Z9))
 (Z0 (Z1 <| mM 0 13 <| fo (ZR [(.int .i64 (.ofNat 0)), (.int .i64 (.ofNat 0))] [(0, 1, (kI 1)), (1, 1, (kI 1))]) (St 14) <| fo (ZR [(.str []), (.int .i64 (.ofNat 0)), (.int .i64 (.ofNat 0))] [(0, 1, (Gt 13)), (1, 2, (Gt 14))]) (St 15) <| fo (X0 169 (Gt 15)) (St 16) <| mM 16 5 <| Z2)
 (Z0 (Z1 <| fo (fmv (kD (.v (.slice none 0 0)))) (St 6) <| Z2)
 (Zb 0 (Y3 (Zb 1 (Z0 (Z1 <| mM 5 17 <| mK 71 [(Gt 17)] 18 <| Z2)
 (Z0 (Z0 (Z1 <| mM 5 19 <| mN 19 20 <| mF 0 20 21 <| mL 21 22 <| fo (Zc Yc .eql 9 (.tmp 22) (.const (.string ⟨#[]⟩)) (Gt 22) (kS [])) (St 23) <| Z2)
 (Z6 (Gt 23) (Z0 (Z1 <| mM 6 24 <| mM 5 25 <| mN 25 26 <| mF 1 26 27 <| fo (ZT 2 (Gt 27)) (St 28) <| fo (ZR [(.int .i64 (.ofNat 0)), (.str []), (.int .u64 (.ofNat 0)), (.int .i64 (.ofNat 0)), (.int .i64 (.ofNat 0))] [(0, 1, (kI 3)), (3, 2, (Gt 28))]) (St 29) <| fo (Y6 172 1 [(.int .i64 (.ofNat 0)), (.str []), (.int .u64 (.ofNat 0)), (.int .i64 (.ofNat 0)), (.int .i64 (.ofNat 0))] [(0, 5, (Gt 29))]) (St 30) <| fo (u2 (YY 172 5 48) (Gt 24) (Gt 30)) (St 31) <| fo (ZR [(.int .i64 (.ofNat 0)), (.int .i64 (.ofNat 0))] []) (St 32) <| mM 31 2 <| fo (ZE 2 (Gt 3) (Gt 32)) p0 <| fo (fmv (kI 0)) (St 4) <| Z2)
 Ze) Z9))
 (Z0 (Z1 <| mM 5 34 <| mK 72 [(Gt 34)] 35 <| mM 35 33 <| mE 0 33 36 <| mE 1 33 37 <| fo (Zr 172 [(.int .i64 (.ofNat 0)), (.str []), (.int .u64 (.ofNat 0)), (.int .i64 (.ofNat 0)), (.int .i64 (.ofNat 0))]) (St 7) <| fo (ZE 5 (Gt 7) (Gt 36)) p0 <| mM 37 8 <| Z2)
 (Z0 (Z0 (Z1 <| mM 8 38 <| fo (mR 34 38 0) (St 39) <| Z2)
 (Z6 (Gt 39) (Z0 (Y1 <| fdo (fmv (Gt 5)) (St 40) <| fdo (u1 ZJ (Gt 40)) (St 41) <| fdo (u1 (YC 1) (Gt 41)) (St 42) <| fdr 3 [] 2 (Gt 42) (ZT 2 (Gt 42)) (St 43) <| fdo (fmv (Gt 8)) (St 44) <| fdo (fmv (kD (.v (.slice none 0 0)))) (St 2) <| fdl 6 [4] (ZE 2 (Gt 3) (Gt 43)) p0 <| fdo (fmv (Gt 44)) (St 4) <| Y2)
 Ze) Z9))
 (Z0 (Z1 <| mM 5 45 <| mN 45 46 <| mF 1 46 47 <| fo (ZT 2 (Gt 47)) (St 48) <| mF 3 7 49 <| fo (ZE 2 (Gt 49) (Gt 48)) p0 <| Z2)
 (Z0 (Z1 <| mM 6 50 <| fo (ZT 5 (Gt 7)) (St 51) <| fo (Y6 172 1 [(.int .i64 (.ofNat 0)), (.str []), (.int .u64 (.ofNat 0)), (.int .i64 (.ofNat 0)), (.int .i64 (.ofNat 0))] [(0, 5, (Gt 51))]) (St 52) <| fo (u2 (YY 172 5 48) (Gt 50) (Gt 52)) (St 53) <| mM 53 6 <| Z2)
 (Z1 <| mM 5 54 <| mF 1 7 55 <| mL 55 56 <| fo (u1 Xo (Gt 56)) (St 57) <| mK 73 [(Gt 54), (Gt 57)] 58 <| Z2))))))))))))))
variable {lp : Nat} {h : H} {Q : D → H → Prop} {R : Pan}
abbrev cDec : List Nat := [48, 49, 50, 51, 52, 53, 54, 55, 56, 57]
abbrev cRun : List Nat := [65, 66, 67, 68, 69, 70, 71, 72, 73, 74, 75, 76, 77, 78, 79, 80, 81, 82, 83, 84, 85, 86, 87, 88, 89, 90, 97, 98, 99, 100, 101, 102, 103, 104, 105, 106, 107, 108, 109, 110, 111, 112, 113, 114, 115, 116, 117, 118, 119, 120, 121, 122, 95, 48, 49, 50, 51, 52, 53, 54, 55, 56, 57]
abbrev cHex : List Nat := [48, 49, 50, 51, 52, 53, 54, 55, 56, 57, 97, 98, 99, 100, 101, 102, 65, 66, 67, 68, 69, 70]
abbrev cBl : List Nat := [32, 9, 10, 13]
abbrev signs : List (List Nat) := [[46, 46], [61, 61], [33, 61], [60, 61], [62, 61], [60, 60], [62, 62], [38, 38], [124, 124], [123], [125], [40], [41], [91], [93], [59], [58], [44], [61], [60], [62], [43], [45], [42], [47], [37], [38], [124], [33]]
def Xe (cut s : List Nat) : Nat := s.length - (ltrim cut s).length
theorem ltrim_len (cut : List Nat) : ∀ s : List Nat, (ltrim cut s).length ≤ s.length
  | [] => Nat.le_refl _
  | b :: r => by
    unfold ltrim
    cases memN b cut with
    | true => exact Nat.le_succ_of_le (ltrim_len cut r)
    | false => exact Nat.le_refl _
theorem YV (cut s : List Nat) : Xe cut s ≤ s.length := Nat.sub_le _ _
def isP (p s : List Nat) : Prop := s.take p.length = p
instance (p s : List Nat) : Decidable (isP p s) := inferInstanceAs (Decidable (_ = _))
theorem isP_mk {p s : List Nat} (h : s.take p.length = p) : isP p s := h
theorem isP_no {p s : List Nat} (h : ¬ s.take p.length = p) : ¬ isP p s := h
theorem isP_lt {p s : List Nat} (h : s.length < p.length) : ¬ isP p s := fun he => by
  have := congrArg List.length (show s.take p.length = p from he)
  rw [List.length_take] at this
  omega
def posS : List Nat → Nat → Nat → Nat × Nat
  | [], a, b => (a, b)
  | x :: r, a, b => if x = 10 then posS r (a + 1) 1 else posS r a (b + 1)
def YD : List Nat → List Nat
  | [] => []
  | x :: r => if x = 10 then [] else x :: YD r
def Ym : Bool → List Nat → Nat → Nat → List Nat × Nat × Nat
  | _, [], a, b => ([], a, b)
  | c, x :: r, a, b =>
    if x = 10 then Ym false r (a + 1) 1
    else if c = true then Ym true r a (b + 1)
    else if x = 32 ∨ x = 9 ∨ x = 13 then Ym false r a (b + 1)
    else if x = 47 ∧ r.head? = some 47 then Ym true r a (b + 1)
    else (x :: r, a, b)
def digV (x : Nat) : Nat := if 48 ≤ x ∧ x ≤ 57 then x - 48 else if 97 ≤ x ∧ x ≤ 102 then x - 87 else if 65 ≤ x ∧ x ≤ 70 then x - 55 else 16
def numV (base : Nat) (s : List Nat) : Nat := s.foldl (fun n x => n * base + digV x) 0
def digitsS (s : List Nat) : List Nat × Nat :=
  if isP [48, 120] s ∧ s.drop 2 ≠ [] ∧ Xe cHex (s.drop 2) = (s.drop 2).length then (s.drop 2, 16)
  else if Xe cDec s = s.length then (s, 10) else ([], 0)
def numS (s : List Nat) : Nat × Tok :=
  if okN s = false then (255, default)
  else if (digitsS s).2 = 0 then (4, default)
  else if numV (digitsS s).2 (digitsS s).1 < 18446744073709551616 then (0, ⟨1, s, numV (digitsS s).2 (digitsS s).1, 0, 0⟩)
  else (5, default)
def signS : List (List Nat) → List Nat → Option (List Nat)
  | [], _ => none
  | p :: ps, s => if isP p s then some p else signS ps s
def tokS (s : List Nat) : Nat × Tok :=
  if 0 < Xe cRun s then
    if 0 < Xe cDec (s.take (Xe cRun s)) then numS (s.take (Xe cRun s))
    else if 32 < Xe cRun s then (7, default)
    else (0, ⟨0, s.take (Xe cRun s), 0, 0, 0⟩)
  else match signS signs s with
    | some p => (0, ⟨2, p, 0, 0, 0⟩)
    | none => (4, default)
def lexS : Nat → List Nat → Nat → Nat → List Tok → Option (List Tok × Nat × Nat × Nat)
  | 0, _, _, _, _ => none
  | g + 1, s, a, b, ts =>
    if (Ym false s a b).1 = [] then some (ts ++ [⟨3, [], 0, (Ym false s a b).2.1, (Ym false s a b).2.2⟩], 0, 0, 0)
    else if (tokS (Ym false s a b).1).1 = 0 then
      lexS g ((Ym false s a b).1.drop (tokS (Ym false s a b).1).2.s.length)
        (posS ((Ym false s a b).1.take (tokS (Ym false s a b).1).2.s.length) (Ym false s a b).2.1 (Ym false s a b).2.2).1
        (posS ((Ym false s a b).1.take (tokS (Ym false s a b).1).2.s.length) (Ym false s a b).2.1 (Ym false s a b).2.2).2
        (ts ++ [{ (tokS (Ym false s a b).1).2 with line := (Ym false s a b).2.1, col := (Ym false s a b).2.2 }])
    else if (tokS (Ym false s a b).1).1 = 255 then none
    else some ([], (Ym false s a b).2.1, (Ym false s a b).2.2, (tokS (Ym false s a b).1).1)
def libCut (ds : List D) (h : H) : O D :=
  match ds with
  | [.str s, .str [10]] => bif Nat.ble s.length 1000000 then .ok (.tup [.str (YD s), .str (s.drop ((YD s).length + 1)), .v (.bool (decide ((YD s).length < s.length)))]) h else .fail "cut"
  | _ => .fail "cut"
def libNum (ds : List D) (h : H) : O D :=
  match ds with
  | [.str s] => bif okN s then .ok (.tup [.agg (tokC (numS s).2), .int .i64 (.ofNat (numS s).1)]) h else .fail "number"
  | _ => .fail "number"
theorem vc149 (h149 : T 150 = flib Xx) {s cut : List Nat} (hc : (ascii cut && Nat.blt cut.length 4294967281) = true) (hq : Q (.str (ltrim cut s)) h) : VC E T 150 [.str s, .str cut] h Q R := by
  refine vc_lib h149 ?_
  simp only [Xx, hc, cond_true]
  exact hq
theorem vc112 (h112 : T 113 = flib libCut) {s : List Nat} (hs : s.length ≤ 1000000) (hq : ∀ a b, Q (.tup [.str (YD s), .str a, .v (.bool b)]) h) : VC E T 113 [.str s, .str [10]] h Q R := vc_lib h112 (by simp only [libCut, Nat.ble_eq_true_of_le hs, cond_true]; exact hq _ _)
theorem vc113 (h113 : T 114 = flib libNum) {s : List Nat} (ho : okN s = true) (hq : Q (.tup [.agg (tokC (numS s).2), .int .i64 (.ofNat (numS s).1)]) h) : VC E T 114 [.str s] h Q R := vc_lib h113 (by simp only [libNum, ho, cond_true]; exact hq)
theorem vc110 (h149 : T 150 = flib Xx) (h110 : T 111 = q110) {s cut : List Nat} (hc : (ascii cut && Nat.blt cut.length 4294967281) = true) (hs : s.length ≤ 1000000) (hq : Q (.int .i64 (.ofNat (Xe cut s))) h) : VC E T 111 [.str s, .str cut] h Q R := by
  have hl := ltrim_len cut s
  refine Ya h110 ?_
  unfold ZV
  repeat' (with_reducible (first | refine Zk ?_ | refine Zl ?_ | refine ZG ?_ | refine ZF ?_ | refine Zn ?_ | refine Zd ?_ | refine Zm ?_ | refine ZH ?_ | refine Zy ?_ | refine Zi ?_ | refine Zz ?_ | refine vc149 h149 hc ?_ | simp (maxSteps := 2000000) (disch := first | assumption | omega | (simp only [Z4, Z3, List.length_cons, List.length_nil, List.length_append, List.length_take, List.length_drop]; omega) | fail) only [go_sem, -Int.reduceOfNat] | ((first | refine ZL ?_ ?_ | refine ZC ?_ ?_ | refine ZK ?_ ?_ | refine ZA ?_ ?_ | refine ZB ?_ ?_ | refine Zj ?_ ?_) <;> intro _) | (refine Yk ?_) | (show Q _ _; simpa only [Xe] using hq)))
theorem vc150 (h150 : T 151 = q150) {s p : List Nat} (hq : (isP p s → Q (.v (.bool true)) h) ∧ (¬ isP p s → Q (.v (.bool false)) h)) : VC E T 151 [.str s, .str p] h Q R := by
  refine Ya h150 ?_
  unfold ZV
  repeat' (with_reducible (first | refine Zk ?_ | refine Zl ?_ | refine ZG ?_ | refine ZF ?_ | refine Zn ?_ | refine Zd ?_ | refine Zm ?_ | refine ZH ?_ | refine Zy ?_ | refine Zi ?_ | refine Zz ?_ | simp (maxSteps := 2000000) (disch := first | assumption | omega | (simp only [Z4, Z3, List.length_cons, List.length_nil, List.length_append, List.length_take, List.length_drop]; omega) | fail) only [go_sem, -Int.reduceOfNat, *, List.length_take] | ((first | refine ZL ?_ ?_ | refine ZC ?_ ?_ | refine ZK ?_ ?_ | refine ZA ?_ ?_ | refine ZB ?_ ?_ | refine Zj ?_ ?_) <;> intro _) | (refine Yk ?_) | (show Q _ _; first | exact hq.1 (isP_mk (by assumption)) | exact hq.2 (isP_no (by assumption)) | exact hq.2 (isP_lt (by assumption))) | (refine q_dec ?_ ?_ <;> intro _)))
theorem vc111 (h150 : T 151 = q150) (h111 : T 112 = q111) {s p : List Nat} (hq : (isP p s → Q (.v (.bool true)) h) ∧ (¬ isP p s → Q (.v (.bool false)) h)) : VC E T 112 [.str s, .str p] h Q R := by
  refine Ya h111 ?_
  unfold ZV
  repeat' (with_reducible (first | refine Zk ?_ | refine Zl ?_ | refine ZG ?_ | refine ZF ?_ | refine Zn ?_ | refine Zd ?_ | refine Zm ?_ | refine ZH ?_ | refine Zy ?_ | refine Zi ?_ | refine Zz ?_ | refine vc150 h150 ⟨?_, ?_⟩ | simp (maxSteps := 2000000) (disch := first | assumption | omega | (simp only [Z4, Z3, List.length_cons, List.length_nil, List.length_append, List.length_take, List.length_drop]; omega) | fail) only [go_sem, -Int.reduceOfNat] | ((first | refine ZL ?_ ?_ | refine ZC ?_ ?_ | refine ZK ?_ ?_ | refine ZA ?_ ?_ | refine ZB ?_ ?_ | refine Zj ?_ ?_) <;> intro _) | (refine Yk ?_) | (show Q _ _; first | exact hq.1 (by assumption) | exact hq.2 (by assumption)) | (intro _)))
def atS (o : Option AObj) (F : List Nat → Nat → Nat → Prop) : Prop := ∃ r a b, o = some (.cells 169 [.str r, .int .i64 (.ofNat a), .int .i64 (.ofNat b)]) ∧ F r a b
theorem atS_some {r : List Nat} {a b : Nat} {F : List Nat → Nat → Nat → Prop} : atS (some (.cells 169 [.str r, .int .i64 (.ofNat a), .int .i64 (.ofNat b)])) F ↔ F r a b := by
  constructor
  · rintro ⟨a', b', c', he, hf⟩
    simp only [Option.some.injEq, AObj.cells.injEq, List.cons.injEq, D.str.injEq, D.int.injEq, Int.ofNat.injEq, and_true, true_and] at he
    obtain ⟨rfl, rfl, rfl⟩ := he
    exact hf
  · intro hf
    exact ⟨r, a, b, rfl, hf⟩
attribute [local go_sem] atS_some
theorem posS_drop {w : List Nat} {i a b : Nat} (hi : i < w.length) : posS (w.drop i) a b = if w.getD i 0 = 10 then posS (w.drop (i + 1)) (a + 1) 1 else posS (w.drop (i + 1)) a (b + 1) := by
  rw [drop_at hi, posS]
theorem posS_len {w : List Nat} {i : Nat} (hi : i = w.length) (a b : Nat) : posS (w.drop i) a b = (a, b) := by
  subst hi; simp [posS]
abbrev FRS (h h' : H) (lp : Nat) : Prop := ∀ l : Nat, l < h.next → l ≠ lp → Zg h'.mem l = Zg h.mem l
abbrev IK (h : H) (lp : Nat) (r : List Nat) (n a b : Nat) (P : Nat × Nat) (m : Nat) (t1 : Tr D) (h1 : H) : Prop :=
  Gt 0 t1 = .ptr lp 0 ∧ Gt 1 t1 = .int .i64 (.ofNat n) ∧ Gt 12 t1 = .sl 0 n (Xz (r.take n)) ∧ Gt 13 t1 = .int .i64 (.ofNat n) ∧ ∃ i, Gt 14 t1 = .int .i64 (.ofNat i) ∧ i ≤ n ∧ m + i = n ∧ h.next ≤ h1.next ∧ FRS h h1 lp ∧ ∃ a1, ∃ b1, Zg h1.mem lp = some (.cells 169 [.str r, .int .i64 (.ofNat a1), .int .i64 (.ofNat b1)]) ∧ posS ((r.take n).drop i) a1 b1 = P ∧ a1 + b1 ≤ a + b + 2 * i
theorem vc72 (h72 : T 73 = q72) {n : Nat} (hq : atS (Zg h.mem lp) fun r a b => (lp < h.next ∧ n ≤ r.length ∧ r.length + a + b ≤ 1000000) ∧ ∀ h', h.next ≤ h'.next → FRS h h' lp → Zg h'.mem lp = some (.cells 169 [.str (r.drop n), .int .i64 (.ofNat (posS (r.take n) a b).1), .int .i64 (.ofNat (posS (r.take n) a b).2)]) → Q (.tup []) h') : VC E T 73 [.ptr lp 0, .int .i64 (.ofNat n)] h Q R := by
  obtain ⟨r, a, b, hc, ⟨hn, hl, hl2⟩, hk⟩ := hq
  have htl : (r.take n).length = n := by simp; omega
  generalize hP : posS (r.take n) a b = P at hk
  refine Ya h72 ?_
  unfold ZV
  repeat' (with_reducible (first | refine Zk ?_ | refine Zl ?_ | refine ZG ?_ | refine ZF ?_ | refine Zn ?_ | refine Zd ?_ | refine Zm ?_ | refine ZH ?_ | refine Zy ?_ | refine Zi ?_ | refine Zz ?_ | simp (maxSteps := 2000000) (disch := first | assumption | omega | (simp only [Z4, Z3, List.length_cons, List.length_nil, List.length_append, List.length_take, List.length_drop]; omega) | fail) only [go_sem, -Int.reduceOfNat, *, IK, and_assoc, exists_and_left, D.str.injEq, Nat.lt_irrefl, List.getD_cons_zero, Option.some.injEq, AObj.cells.injEq, D.int.injEq, D.ptr.injEq, Int.ofNat.injEq, exists_eq_left'] | ((first | refine ZL ?_ ?_ | refine ZC ?_ ?_ | refine ZK ?_ ?_ | refine ZA ?_ ?_ | refine ZB ?_ ?_ | refine Zj ?_ ?_) <;> intro _) | (refine W4 (IK h lp r n a b P) (n := n) ?_ ?_) | assumption | (intro _; intros) | (show _ < _; omega) | (show _ ≤ _; omega) | (show ¬ (_ : Nat) = _; omega) | (show (_ : Nat) = _; omega) | refine And.intro ?_ ?_ | (refine ⟨?_, ?_⟩) | fail))
  all_goals
    rintro m t1 h1 ⟨g0, g1, g12, g13, i, g14, gi, gm, gn, gf, a1, b1, gc, gp, gb⟩
    by_cases hi : i = n
    · subst hi
      rw [posS_len htl.symm] at gp
      subst gp
      repeat' (with_reducible (first | refine Zk ?_ | refine Zl ?_ | refine ZG ?_ | refine ZF ?_ | refine Zn ?_ | refine Zd ?_ | refine Zm ?_ | refine ZH ?_ | refine Zy ?_ | refine Zi ?_ | refine Zz ?_ | simp (maxSteps := 2000000) (disch := first | assumption | omega | (simp only [Z4, Z3, List.length_cons, List.length_nil, List.length_append, List.length_take, List.length_drop]; omega) | fail) only [go_sem, -Int.reduceOfNat, *, IK, and_assoc, exists_and_left, D.str.injEq, Nat.lt_irrefl, List.getD_cons_zero, Option.some.injEq, AObj.cells.injEq, D.int.injEq, D.ptr.injEq, Int.ofNat.injEq, exists_eq_left'] | ((first | refine ZL ?_ ?_ | refine ZC ?_ ?_ | refine ZK ?_ ?_ | refine ZA ?_ ?_ | refine ZB ?_ ?_ | refine Zj ?_ ?_) <;> intro _) | (show Q _ _; refine hk _ ?_ ?_ ?_) | assumption | (intro _; intros) | (show _ < _; omega) | (show _ ≤ _; omega) | (show ¬ (_ : Nat) = _; omega) | (show (_ : Nat) = _; omega) | refine And.intro ?_ ?_ | (refine ⟨?_, ?_⟩) | fail))
    · have hin : i < n := by omega
      rw [posS_drop (w := r.take n) (i := i) (a := a1) (b := b1) (by omega)] at gp
      have hby := oIxs_by (h := h1) (id := 0) (n := n) (j := i) (kk := .i64) (s := r.take n) (by omega) htl
      by_cases h10 : (r.take n).getD i 0 = 10
      · rw [h10] at hby
        rw [if_pos h10] at gp
        repeat' (with_reducible (first | refine Zk ?_ | refine Zl ?_ | refine ZG ?_ | refine ZF ?_ | refine Zn ?_ | refine Zd ?_ | refine Zm ?_ | refine ZH ?_ | refine Zy ?_ | refine Zi ?_ | refine Zz ?_ | simp (maxSteps := 2000000) (disch := first | assumption | omega | (simp only [Z4, Z3, List.length_cons, List.length_nil, List.length_append, List.length_take, List.length_drop]; omega) | fail) only [go_sem, -Int.reduceOfNat, *, IK, and_assoc, exists_and_left, D.str.injEq, Nat.lt_irrefl, List.getD_cons_zero, Option.some.injEq, AObj.cells.injEq, D.int.injEq, D.ptr.injEq, Int.ofNat.injEq, exists_eq_left'] | ((first | refine ZL ?_ ?_ | refine ZC ?_ ?_ | refine ZK ?_ ?_ | refine ZA ?_ ?_ | refine ZB ?_ ?_ | refine Zj ?_ ?_) <;> intro _) | (refine ⟨n - (i + 1), by omega, ?_⟩) | (refine ⟨i + 1, ?_⟩) | assumption | (intro _; intros) | (show _ < _; omega) | (show _ ≤ _; omega) | (show ¬ (_ : Nat) = _; omega) | (show (_ : Nat) = _; omega) | refine And.intro ?_ ?_ | (refine ⟨?_, ?_⟩) | fail))
      · rw [if_neg h10] at gp
        repeat' (with_reducible (first | refine Zk ?_ | refine Zl ?_ | refine ZG ?_ | refine ZF ?_ | refine Zn ?_ | refine Zd ?_ | refine Zm ?_ | refine ZH ?_ | refine Zy ?_ | refine Zi ?_ | refine Zz ?_ | simp (maxSteps := 2000000) (disch := first | assumption | omega | (simp only [Z4, Z3, List.length_cons, List.length_nil, List.length_append, List.length_take, List.length_drop]; omega) | fail) only [go_sem, -Int.reduceOfNat, *, IK, and_assoc, exists_and_left, D.str.injEq, Nat.lt_irrefl, List.getD_cons_zero, Option.some.injEq, AObj.cells.injEq, D.int.injEq, D.ptr.injEq, Int.ofNat.injEq, exists_eq_left'] | ((first | refine ZL ?_ ?_ | refine ZC ?_ ?_ | refine ZK ?_ ?_ | refine ZA ?_ ?_ | refine ZB ?_ ?_ | refine Zj ?_ ?_) <;> intro _) | (refine ⟨n - (i + 1), by omega, ?_⟩) | (refine ⟨i + 1, ?_⟩) | assumption | (intro _; intros) | (show _ < _; omega) | (show _ ≤ _; omega) | (show ¬ (_ : Nat) = _; omega) | (show (_ : Nat) = _; omega) | refine And.intro ?_ ?_ | (refine ⟨?_, ?_⟩) | fail))
end
section
attribute [local go_sem] atS_some
variable {lp : Nat} {h : H} {Q : D → H → Prop} {R : Pan}
theorem runL_cons {cut : List Nat} {x : Nat} {r : List Nat} : Xe cut (x :: r) = if memN x cut = true then Xe cut r + 1 else 0 := by
  have hl := ltrim_len cut r
  simp only [Xe, ltrim]
  cases hm : memN x cut with
  | true => simp only [cond_true, List.length_cons, if_true]; omega
  | false => simp
theorem memN_bl {x : Nat} : memN x cBl = true ↔ x = 10 ∨ x = 32 ∨ x = 9 ∨ x = 13 := by
  simp [memN]; omega
theorem pass_blank : ∀ (r : List Nat) (a b : Nat), Ym false r a b = Ym false (r.drop (Xe cBl r)) (posS (r.take (Xe cBl r)) a b).1 (posS (r.take (Xe cBl r)) a b).2
  | [], a, b => rfl
  | x :: r, a, b => by
    rw [runL_cons]
    split
    · rename_i hm
      rw [memN_bl] at hm
      rw [List.drop_succ_cons, List.take_succ_cons, posS]
      by_cases h10 : x = 10
      · simp only [Ym, h10, if_true]
        exact pass_blank r (a + 1) 1
      · have h3 : x = 32 ∨ x = 9 ∨ x = 13 := by omega
        simp only [Ym, h10, if_false, Bool.false_eq_true, h3, if_true]
        exact pass_blank r a (b + 1)
    · rfl
theorem pass_line : ∀ (r : List Nat) (a b : Nat), Ym true r a b = Ym false (r.drop (YD r).length) (posS (r.take (YD r).length) a b).1 (posS (r.take (YD r).length) a b).2
  | [], a, b => rfl
  | x :: r, a, b => by
    by_cases h10 : x = 10
    · simp only [YD, h10, if_true, List.length_nil, List.drop_zero, List.take_zero, posS, Ym]
    · simp only [YD, h10, if_false, List.length_cons, List.drop_succ_cons, List.take_succ_cons, posS, Ym, if_true]
      exact pass_line r a (b + 1)
theorem isP_two {s : List Nat} (h : isP [47, 47] s) : ∃ r, s = 47 :: 47 :: r := by
  match s, h with
  | [], h => simp [isP] at h
  | [x], h => simp [isP] at h
  | x :: y :: r, h => simp [isP] at h; obtain ⟨rfl, rfl⟩ := h; exact ⟨r, rfl⟩
theorem pass_comment {r : List Nat} {a b : Nat} (h : isP [47, 47] r) : Ym false r a b = Ym false (r.drop (YD r).length) (posS (r.take (YD r).length) a b).1 (posS (r.take (YD r).length) a b).2 := by
  obtain ⟨s, rfl⟩ := isP_two h
  have := pass_line (47 :: s) a (b + 1)
  simpa [Ym, YD, posS] using this
theorem line_pos {r : List Nat} (h : isP [47, 47] r) : 0 < (YD r).length := by
  obtain ⟨s, rfl⟩ := isP_two h
  simp [YD]
theorem line_le : ∀ r : List Nat, (YD r).length ≤ r.length
  | [] => Nat.le_refl _
  | x :: r => by
    unfold YD
    split
    · simp
    · simpa using line_le r
theorem pass_none {r : List Nat} {a b : Nat} (h0 : Xe cBl r = 0) (h : ¬ isP [47, 47] r) : Ym false r a b = (r, a, b) := by
  match r, h0, h with
  | [], _, _ => rfl
  | x :: r, h0, h =>
    rw [runL_cons] at h0
    split at h0
    · cases h0
    · rename_i hm
      rw [memN_bl] at hm
      have h1 : ¬ x = 10 := by omega
      have h2 : ¬ (x = 32 ∨ x = 9 ∨ x = 13) := by omega
      have h3 : ¬ (x = 47 ∧ r.head? = some 47) := by
        rintro ⟨rfl, h4⟩
        cases r with
        | nil => simp at h4
        | cons y r => simp at h4; subst h4; exact h (by simp [isP])
      simp only [Ym, h1, if_false, h2, h3, Bool.false_eq_true]
theorem pos_bound : ∀ (w : List Nat) (a b : Nat), (posS w a b).1 + (posS w a b).2 ≤ a + b + 2 * w.length
  | [], a, b => by simp [posS]
  | x :: r, a, b => by
    unfold posS
    have h1 := pos_bound r (a + 1) 1
    have h2 := pos_bound r a (b + 1)
    simp only [List.length_cons]
    split <;> omega
theorem pass_bound : ∀ (c : Bool) (r : List Nat) (a b : Nat), 2 * (Ym c r a b).1.length + (Ym c r a b).2.1 + (Ym c r a b).2.2 ≤ 2 * r.length + a + b
  | c, [], a, b => by simp [Ym]
  | c, x :: r, a, b => by
    have h1 := pass_bound false r (a + 1) 1
    have h2 := pass_bound true r a (b + 1)
    have h3 := pass_bound false r a (b + 1)
    unfold Ym
    simp only [List.length_cons]
    repeat' split
    all_goals first | omega | (simp only [List.length_cons]; omega)
theorem pass_len : ∀ (c : Bool) (r : List Nat) (a b : Nat), (Ym c r a b).1.length ≤ r.length
  | c, [], a, b => by simp [Ym]
  | c, x :: r, a, b => by
    have h1 := pass_len false r (a + 1) 1
    have h2 := pass_len true r a (b + 1)
    have h3 := pass_len false r a (b + 1)
    unfold Ym
    simp only [List.length_cons]
    repeat' split
    all_goals first | omega | (simp only [List.length_cons]; omega)
abbrev IPS (h : H) (lp B : Nat) (P : List Nat × Nat × Nat) (m : Nat) (t1 : Tr D) (h1 : H) : Prop :=
  Gt 0 t1 = .ptr lp 0 ∧ h.next ≤ h1.next ∧ FRS h h1 lp ∧ ∃ r1, ∃ a1, ∃ b1, Zg h1.mem lp = some (.cells 169 [.str r1, .int .i64 (.ofNat a1), .int .i64 (.ofNat b1)]) ∧ r1.length = m ∧ 2 * r1.length + a1 + b1 ≤ B ∧ Ym false r1 a1 b1 = P
theorem vc70 (h149 : T 150 = flib Xx) (h112 : T 113 = flib libCut) (h110 : T 111 = q110) (h150 : T 151 = q150) (h111 : T 112 = q111) (h72 : T 73 = q72) (h70 : T 71 = q70)
    (hq : atS (Zg h.mem lp) fun r a b => (lp < h.next ∧ 2 * r.length + a + b ≤ 1000000) ∧ ∀ h', h.next ≤ h'.next → FRS h h' lp → Zg h'.mem lp = some (.cells 169 [.str (Ym false r a b).1, .int .i64 (.ofNat (Ym false r a b).2.1), .int .i64 (.ofNat (Ym false r a b).2.2)]) → Q (.tup []) h') : VC E T 71 [.ptr lp 0] h Q R := by
  obtain ⟨r, a, b, hc, ⟨hn, hl⟩, hk⟩ := hq
  generalize hP : Ym false r a b = P at hk
  refine Ya h70 ?_
  unfold ZV
  repeat' (with_reducible (first | refine Zk ?_ | refine Zl ?_ | refine ZG ?_ | refine ZF ?_ | refine Zn ?_ | refine Zd ?_ | refine Zm ?_ | refine ZH ?_ | refine Zy ?_ | refine Zi ?_ | refine Zz ?_ | simp (maxSteps := 2000000) (disch := first | assumption | omega | fail) only [go_sem, -Int.reduceOfNat, *, IPS, and_assoc, exists_and_left, D.str.injEq, Nat.lt_irrefl, List.getD_cons_zero, YV, true_implies, false_implies, implies_true, Option.some.injEq, AObj.cells.injEq, D.int.injEq, D.ptr.injEq, Int.ofNat.injEq, exists_eq_left'] | ((first | refine ZL ?_ ?_ | refine ZC ?_ ?_ | refine ZK ?_ ?_ | refine ZA ?_ ?_ | refine ZB ?_ ?_ | refine Zj ?_ ?_) <;> intro _) | (refine W4 (IPS h lp (2 * r.length + a + b) P) (n := r.length) ?_ ?_) | assumption | (intro _; intros) | (show _ < _; omega) | (show _ ≤ _; omega) | (show ¬ (_ : Nat) = _; omega) | (show (_ : Nat) = _; omega) | refine And.intro ?_ ?_ | (refine ⟨?_, ?_⟩) | (rw [List.length_drop]; omega) | fail))
  all_goals
    rintro m t1 h1 ⟨g0, gn, gf, r1, a1, b1, gc, gm, gb, gp⟩
    have hle := line_le r1
    have hrl := YV cBl r1
    by_cases hcm : isP [47, 47] r1
    · have hps := line_pos hcm
      rw [pass_comment hcm] at gp
      have hpb := pos_bound (r1.take (YD r1).length) a1 b1
      rw [List.length_take, Nat.min_eq_left hle] at hpb
      repeat' (with_reducible (first | refine Zk ?_ | refine Zl ?_ | refine ZG ?_ | refine ZF ?_ | refine Zn ?_ | refine Zd ?_ | refine Zm ?_ | refine ZH ?_ | refine Zy ?_ | refine Zi ?_ | refine Zz ?_ | refine vc110 h149 h110 rfl (by omega) ?_ | refine vc111 h150 h111 ?_ | refine vc112 h112 (by omega) ?_ | refine vc72 h72 ?_ | simp (maxSteps := 2000000) (disch := first | assumption | omega | fail) only [go_sem, -Int.reduceOfNat, *, IPS, and_assoc, exists_and_left, D.str.injEq, Nat.lt_irrefl, List.getD_cons_zero, YV, true_implies, false_implies, implies_true, Option.some.injEq, AObj.cells.injEq, D.int.injEq, D.ptr.injEq, Int.ofNat.injEq, exists_eq_left'] | ((first | refine ZL ?_ ?_ | refine ZC ?_ ?_ | refine ZK ?_ ?_ | refine ZA ?_ ?_ | refine ZB ?_ ?_ | refine Zj ?_ ?_) <;> intro _) | (refine ⟨r1.length - (YD r1).length, by omega, ?_⟩) | assumption | (intro _; intros) | (show _ < _; omega) | (show _ ≤ _; omega) | (show ¬ (_ : Nat) = _; omega) | (show (_ : Nat) = _; omega) | refine And.intro ?_ ?_ | (refine ⟨?_, ?_⟩) | (rw [List.length_drop]; omega) | fail))
    · by_cases h0 : Xe cBl r1 = 0
      · rw [pass_none h0 hcm] at gp
        subst gp
        repeat' (with_reducible (first | refine Zk ?_ | refine Zl ?_ | refine ZG ?_ | refine ZF ?_ | refine Zn ?_ | refine Zd ?_ | refine Zm ?_ | refine ZH ?_ | refine Zy ?_ | refine Zi ?_ | refine Zz ?_ | refine vc110 h149 h110 rfl (by omega) ?_ | refine vc111 h150 h111 ?_ | refine vc112 h112 (by omega) ?_ | refine vc72 h72 ?_ | simp (maxSteps := 2000000) (disch := first | assumption | omega | fail) only [go_sem, -Int.reduceOfNat, *, IPS, and_assoc, exists_and_left, D.str.injEq, Nat.lt_irrefl, List.getD_cons_zero, YV, true_implies, false_implies, implies_true, Option.some.injEq, AObj.cells.injEq, D.int.injEq, D.ptr.injEq, Int.ofNat.injEq, exists_eq_left'] | ((first | refine ZL ?_ ?_ | refine ZC ?_ ?_ | refine ZK ?_ ?_ | refine ZA ?_ ?_ | refine ZB ?_ ?_ | refine Zj ?_ ?_) <;> intro _) | (show Q _ _; refine hk _ ?_ ?_ ?_) | assumption | (intro _; intros) | (show _ < _; omega) | (show _ ≤ _; omega) | (show ¬ (_ : Nat) = _; omega) | (show (_ : Nat) = _; omega) | refine And.intro ?_ ?_ | (refine ⟨?_, ?_⟩) | (rw [List.length_drop]; omega) | fail))
      · rw [pass_blank] at gp
        have hpb := pos_bound (r1.take (Xe cBl r1)) a1 b1
        rw [List.length_take, Nat.min_eq_left hrl] at hpb
        unfold cBl at gp hpb hrl h0
        repeat' (with_reducible (first | refine Zk ?_ | refine Zl ?_ | refine ZG ?_ | refine ZF ?_ | refine Zn ?_ | refine Zd ?_ | refine Zm ?_ | refine ZH ?_ | refine Zy ?_ | refine Zi ?_ | refine Zz ?_ | refine vc110 h149 h110 rfl (by omega) ?_ | refine vc111 h150 h111 ?_ | refine vc112 h112 (by omega) ?_ | refine vc72 h72 ?_ | simp (maxSteps := 2000000) (disch := first | assumption | omega | fail) only [go_sem, -Int.reduceOfNat, *, IPS, and_assoc, exists_and_left, D.str.injEq, Nat.lt_irrefl, List.getD_cons_zero, YV, true_implies, false_implies, implies_true, Option.some.injEq, AObj.cells.injEq, D.int.injEq, D.ptr.injEq, Int.ofNat.injEq, exists_eq_left'] | ((first | refine ZL ?_ ?_ | refine ZC ?_ ?_ | refine ZK ?_ ?_ | refine ZA ?_ ?_ | refine ZB ?_ ?_ | refine Zj ?_ ?_) <;> intro _) | (refine ⟨r1.length - Xe [32, 9, 10, 13] r1, by omega, ?_⟩) | assumption | (intro _; intros) | (show _ < _; omega) | (show _ ≤ _; omega) | (show ¬ (_ : Nat) = _; omega) | (show (_ : Nat) = _; omega) | refine And.intro ?_ ?_ | (refine ⟨?_, ?_⟩) | (rw [List.length_drop]; omega) | fail))
end
section
attribute [local go_sem] atS_some
variable {lp : Nat} {h : H} {Q : D → H → Prop} {R : Pan}
def signsD : List D := [.str [46, 46], .str [61, 61], .str [33, 61], .str [60, 61], .str [62, 61], .str [60, 60], .str [62, 62], .str [38, 38], .str [124, 124], .str [123], .str [125], .str [40], .str [41], .str [91], .str [93], .str [59], .str [58], .str [44], .str [61], .str [60], .str [62], .str [43], .str [45], .str [42], .str [47], .str [37], .str [38], .str [124], .str [33]]
theorem signsD_ag : D.agg [.str [46, 46], .str [61, 61], .str [33, 61], .str [60, 61], .str [62, 61], .str [60, 60], .str [62, 62], .str [38, 38], .str [124, 124], .str [123], .str [125], .str [40], .str [41], .str [91], .str [93], .str [59], .str [58], .str [44], .str [61], .str [60], .str [62], .str [43], .str [45], .str [42], .str [47], .str [37], .str [38], .str [124], .str [33]] = D.agg signsD := rfl
def sg : List (List Nat) := signs
theorem sg_len : sg.length = 29 := rfl
theorem sg_D : signsD = sg.map D.str := rfl
theorem sg_hd {k : Nat} (hk : k < 29) : oHd (signsD.drop (k * 1)) = some (.str (sg.getD k [])) := by
  have hl : k < sg.length := by rw [sg_len]; exact hk
  rw [sg_D, Nat.mul_one, ← List.map_drop, List.drop_eq_getElem_cons hl]
  simp only [List.map_cons, oHd, List.getD_eq_getElem?_getD, List.getElem?_eq_getElem hl, Option.getD_some]
theorem sg_step {k : Nat} (hk : k < 29) (r : List Nat) : signS (sg.drop k) r = if isP (sg.getD k []) r then some (sg.getD k []) else signS (sg.drop (k + 1)) r := by
  have hl : k < sg.length := by rw [sg_len]; exact hk
  rw [List.drop_eq_getElem_cons hl, signS]
  simp [hl]
theorem sg_end (r : List Nat) : signS (sg.drop 29) r = none := by
  rw [List.drop_of_length_le (by rw [sg_len]; omega)]; rfl
abbrev ISG (h : H) (lp : Nat) (r : List Nat) (S : Option (List Nat)) (m : Nat) (t1 : Tr D) (h1 : H) : Prop :=
  Gt 0 t1 = .ptr lp 0 ∧ Gt 2 t1 = .ptr h.next 0 ∧ Gt 35 t1 = .agg signsD ∧ ∃ k, Gt 36 t1 = .int .i64 (.ofNat k) ∧ k ≤ 29 ∧ m + k = 29 ∧ h1 = W8 h (.cells 172 [.int .i64 (.ofNat 0), .str [], .int .u64 (.ofNat 0), .int .i64 (.ofNat 0), .int .i64 (.ofNat 0)]) ∧ signS (sg.drop k) r = S
def tkd : Tok := default
theorem tkd_C : tokC tkd = [.int .i64 (.ofNat 0), .str [], .int .u64 (.ofNat 0), .int .i64 (.ofNat 0), .int .i64 (.ofNat 0)] := rfl
theorem numS_ok {w : List Nat} (h : (numS w).1 ≠ 255) : okN w = true := by
  cases hb : okN w with
  | true => rfl
  | false => rw [numS, if_pos hb] at h; exact absurd rfl h
theorem tokS_num {r : List Nat} (h1 : 0 < Xe cRun r) (h2 : 0 < Xe cDec (r.take (Xe cRun r))) : tokS r = numS (r.take (Xe cRun r)) := by rw [tokS, if_pos h1, if_pos h2]
theorem tokS_long {r : List Nat} (h1 : 0 < Xe cRun r) (h2 : ¬ 0 < Xe cDec (r.take (Xe cRun r))) (h3 : 32 < Xe cRun r) : tokS r = (7, tkd) := by rw [tokS, if_pos h1, if_neg h2, if_pos h3]; rfl
theorem tokS_word {r : List Nat} (h1 : 0 < Xe cRun r) (h2 : ¬ 0 < Xe cDec (r.take (Xe cRun r))) (h3 : ¬ 32 < Xe cRun r) : tokS r = (0, ⟨0, r.take (Xe cRun r), 0, 0, 0⟩) := by rw [tokS, if_pos h1, if_neg h2, if_neg h3]
theorem tokS_sign {r : List Nat} (h1 : ¬ 0 < Xe cRun r) {p : List Nat} (h2 : signS sg r = some p) : tokS r = (0, ⟨2, p, 0, 0, 0⟩) := by
  rw [tokS, if_neg h1, show signS signs r = some p from h2]
theorem tokS_none {r : List Nat} (h1 : ¬ 0 < Xe cRun r) (h2 : signS sg r = none) : tokS r = (4, tkd) := by
  rw [tokS, if_neg h1, show signS signs r = none from h2]; rfl
theorem vc71 (h149 : T 150 = flib Xx) (h113 : T 114 = flib libNum) (h110 : T 111 = q110) (h150 : T 151 = q150) (h111 : T 112 = q111) (h71 : T 72 = q71) (hq : atS (Zg h.mem lp) fun r a b => (lp < h.next ∧ r.length ≤ 1000000 ∧ (tokS r).1 ≠ 255) ∧ ∀ h', h.next ≤ h'.next → (∀ l : Nat, l < h.next → Zg h'.mem l = Zg h.mem l) → Q (.tup [.agg (tokC (tokS r).2), .int .i64 (.ofNat (tokS r).1)]) h') : VC E T 72 [.ptr lp 0] h Q R := by
  obtain ⟨r, a, b, hc, ⟨hn, hl, hok⟩, hk⟩ := hq
  have hrl := YV cRun r
  refine Ya h71 ?_
  unfold ZV
  by_cases h0 : 0 < Xe cRun r
  · by_cases hd : 0 < Xe cDec (r.take (Xe cRun r))
    · rw [tokS_num h0 hd] at hk hok
      replace hok := numS_ok hok
      unfold cRun at h0 hd hrl hk hok
      unfold cDec at hd
      have h0' : ¬ Xe [65, 66, 67, 68, 69, 70, 71, 72, 73, 74, 75, 76, 77, 78, 79, 80, 81, 82, 83, 84, 85, 86, 87, 88, 89, 90, 97, 98, 99, 100, 101, 102, 103, 104, 105, 106, 107, 108, 109, 110, 111, 112, 113, 114, 115, 116, 117, 118, 119, 120, 121, 122, 95, 48, 49, 50, 51, 52, 53, 54, 55, 56, 57] r = 0 := by omega
      repeat' (with_reducible (first | refine Zk ?_ | refine Zl ?_ | refine ZG ?_ | refine ZF ?_ | refine Zn ?_ | refine Zd ?_ | refine Zm ?_ | refine ZH ?_ | refine Zy ?_ | refine Zi ?_ | refine Zz ?_ | refine vc110 h149 h110 rfl (by first | omega | (simp only [List.length_take]; omega)) ?_ | refine vc111 h150 h111 ?_ | refine vc113 h113 hok ?_ | simp (maxSteps := 2000000) (disch := first | assumption | omega | fail) only [go_sem, -Int.reduceOfNat, *, ISG, and_assoc, exists_and_left, D.str.injEq, Nat.lt_irrefl, List.getD_cons_zero, List.getD_cons_succ, YV, true_implies, false_implies, implies_true, Option.some.injEq, AObj.cells.injEq, D.int.injEq, D.ptr.injEq, Int.ofNat.injEq, exists_eq_left'] | ((first | refine ZL ?_ ?_ | refine ZC ?_ ?_ | refine ZK ?_ ?_ | refine ZA ?_ ?_ | refine ZB ?_ ?_ | refine Zj ?_ ?_) <;> intro _) | (show Q _ _; refine hk _ ?_ ?_) | assumption | exact signsD_ag | (intro _; intros) | (show _ < _; omega) | (show _ ≤ _; omega) | (show ¬ (_ : Nat) = _; omega) | (show (_ : Nat) = _; omega) | refine And.intro ?_ ?_ | (refine ⟨?_, ?_⟩) | fail))
    · clear hok
      by_cases h32 : 32 < Xe cRun r
      · rw [tokS_long h0 hd h32, tkd_C] at hk
        unfold cRun at h0 hd hrl h32
        unfold cDec at hd
        repeat' (with_reducible (first | refine Zk ?_ | refine Zl ?_ | refine ZG ?_ | refine ZF ?_ | refine Zn ?_ | refine Zd ?_ | refine Zm ?_ | refine ZH ?_ | refine Zy ?_ | refine Zi ?_ | refine Zz ?_ | refine vc110 h149 h110 rfl (by first | omega | (simp only [List.length_take]; omega)) ?_ | refine vc111 h150 h111 ?_ | simp (maxSteps := 2000000) (disch := first | assumption | omega | fail) only [go_sem, -Int.reduceOfNat, *, ISG, and_assoc, exists_and_left, D.str.injEq, Nat.lt_irrefl, List.getD_cons_zero, List.getD_cons_succ, YV, true_implies, false_implies, implies_true, Option.some.injEq, AObj.cells.injEq, D.int.injEq, D.ptr.injEq, Int.ofNat.injEq, exists_eq_left'] | ((first | refine ZL ?_ ?_ | refine ZC ?_ ?_ | refine ZK ?_ ?_ | refine ZA ?_ ?_ | refine ZB ?_ ?_ | refine Zj ?_ ?_) <;> intro _) | (show Q _ _; refine hk _ ?_ ?_) | assumption | exact signsD_ag | (intro _; intros) | (show _ < _; omega) | (show _ ≤ _; omega) | (show ¬ (_ : Nat) = _; omega) | (show (_ : Nat) = _; omega) | refine And.intro ?_ ?_ | (refine ⟨?_, ?_⟩) | fail))
      · rw [tokS_word h0 hd h32] at hk
        unfold cRun at h0 hd hrl hk h32
        unfold cDec at hd
        repeat' (with_reducible (first | refine Zk ?_ | refine Zl ?_ | refine ZG ?_ | refine ZF ?_ | refine Zn ?_ | refine Zd ?_ | refine Zm ?_ | refine ZH ?_ | refine Zy ?_ | refine Zi ?_ | refine Zz ?_ | refine vc110 h149 h110 rfl (by first | omega | (simp only [List.length_take]; omega)) ?_ | refine vc111 h150 h111 ?_ | simp (maxSteps := 2000000) (disch := first | assumption | omega | fail) only [go_sem, -Int.reduceOfNat, *, ISG, and_assoc, exists_and_left, D.str.injEq, Nat.lt_irrefl, List.getD_cons_zero, List.getD_cons_succ, YV, true_implies, false_implies, implies_true, Option.some.injEq, AObj.cells.injEq, D.int.injEq, D.ptr.injEq, Int.ofNat.injEq, exists_eq_left'] | ((first | refine ZL ?_ ?_ | refine ZC ?_ ?_ | refine ZK ?_ ?_ | refine ZA ?_ ?_ | refine ZB ?_ ?_ | refine Zj ?_ ?_) <;> intro _) | (show Q _ _; refine hk _ ?_ ?_) | assumption | exact signsD_ag | (intro _; intros) | (show _ < _; omega) | (show _ ≤ _; omega) | (show ¬ (_ : Nat) = _; omega) | (show (_ : Nat) = _; omega) | refine And.intro ?_ ?_ | (refine ⟨?_, ?_⟩) | fail))
  · clear hok
    have h00 := h0
    unfold cRun at h0
    generalize hS : signS sg r = S
    repeat' (with_reducible (first | refine Zk ?_ | refine Zl ?_ | refine ZG ?_ | refine ZF ?_ | refine Zn ?_ | refine Zd ?_ | refine Zm ?_ | refine ZH ?_ | refine Zy ?_ | refine Zi ?_ | refine Zz ?_ | refine vc110 h149 h110 rfl (by first | omega | (simp only [List.length_take]; omega)) ?_ | refine vc111 h150 h111 ?_ | simp (maxSteps := 2000000) (disch := first | assumption | omega | fail) only [go_sem, -Int.reduceOfNat, *, ISG, and_assoc, exists_and_left, D.str.injEq, Nat.lt_irrefl, List.getD_cons_zero, List.getD_cons_succ, YV, true_implies, false_implies, implies_true, Option.some.injEq, AObj.cells.injEq, D.int.injEq, D.ptr.injEq, Int.ofNat.injEq, exists_eq_left'] | ((first | refine ZL ?_ ?_ | refine ZC ?_ ?_ | refine ZK ?_ ?_ | refine ZA ?_ ?_ | refine ZB ?_ ?_ | refine Zj ?_ ?_) <;> intro _) | (refine W4 (ISG h lp r S) (n := 29) ?_ ?_) | exact hS | (refine ⟨rfl, ?_⟩) | assumption | exact signsD_ag | (intro _; intros) | (show _ < _; omega) | (show _ ≤ _; omega) | (show ¬ (_ : Nat) = _; omega) | (show (_ : Nat) = _; omega) | refine And.intro ?_ ?_ | (refine ⟨?_, ?_⟩) | fail))
    all_goals
      rintro m t1 h1 ⟨g0, g2, g35, k, g36, gk, gm, gh, gs⟩
      subst gh
      by_cases hke : k = 29
      · subst hke
        rw [sg_end] at gs
        subst gs
        rw [tokS_none h00 hS, tkd_C] at hk
        repeat' (with_reducible (first | refine Zk ?_ | refine Zl ?_ | refine ZG ?_ | refine ZF ?_ | refine Zn ?_ | refine Zd ?_ | refine Zm ?_ | refine ZH ?_ | refine Zy ?_ | refine Zi ?_ | refine Zz ?_ | refine vc110 h149 h110 rfl (by first | omega | (simp only [List.length_take]; omega)) ?_ | refine vc111 h150 h111 ?_ | simp (maxSteps := 2000000) (disch := first | assumption | omega | fail) only [go_sem, -Int.reduceOfNat, *, ISG, and_assoc, exists_and_left, D.str.injEq, Nat.lt_irrefl, List.getD_cons_zero, List.getD_cons_succ, YV, true_implies, false_implies, implies_true, Option.some.injEq, AObj.cells.injEq, D.int.injEq, D.ptr.injEq, Int.ofNat.injEq, exists_eq_left'] | ((first | refine ZL ?_ ?_ | refine ZC ?_ ?_ | refine ZK ?_ ?_ | refine ZA ?_ ?_ | refine ZB ?_ ?_ | refine Zj ?_ ?_) <;> intro _) | (show Q _ _; refine hk _ ?_ ?_) | assumption | exact signsD_ag | (intro _; intros) | (show _ < _; omega) | (show _ ≤ _; omega) | (show ¬ (_ : Nat) = _; omega) | (show (_ : Nat) = _; omega) | refine And.intro ?_ ?_ | (refine ⟨?_, ?_⟩) | fail))
      · have hk9 : k < 29 := by omega
        have hix := sg_hd hk9
        rw [sg_step hk9] at gs
        by_cases hp : isP (sg.getD k []) r
        · rw [if_pos hp] at gs
          subst gs
          rw [tokS_sign h00 hS] at hk
          clear hS
          repeat' (with_reducible (first | refine Zk ?_ | refine Zl ?_ | refine ZG ?_ | refine ZF ?_ | refine Zn ?_ | refine Zd ?_ | refine Zm ?_ | refine ZH ?_ | refine Zy ?_ | refine Zi ?_ | refine Zz ?_ | refine vc110 h149 h110 rfl (by first | omega | (simp only [List.length_take]; omega)) ?_ | refine vc111 h150 h111 ?_ | simp (maxSteps := 2000000) (disch := first | assumption | omega | fail) only [go_sem, -Int.reduceOfNat, *, ISG, and_assoc, exists_and_left, D.str.injEq, Nat.lt_irrefl, List.getD_cons_zero, List.getD_cons_succ, YV, true_implies, false_implies, implies_true, Option.some.injEq, AObj.cells.injEq, D.int.injEq, D.ptr.injEq, Int.ofNat.injEq, exists_eq_left'] | ((first | refine ZL ?_ ?_ | refine ZC ?_ ?_ | refine ZK ?_ ?_ | refine ZA ?_ ?_ | refine ZB ?_ ?_ | refine Zj ?_ ?_) <;> intro _) | (show Q _ _; refine hk _ ?_ ?_) | assumption | exact signsD_ag | (intro _; intros) | (show _ < _; omega) | (show _ ≤ _; omega) | (show ¬ (_ : Nat) = _; omega) | (show (_ : Nat) = _; omega) | refine And.intro ?_ ?_ | (refine ⟨?_, ?_⟩) | fail))
        · rw [if_neg hp] at gs
          clear hS
          repeat' (with_reducible (first | refine Zk ?_ | refine Zl ?_ | refine ZG ?_ | refine ZF ?_ | refine Zn ?_ | refine Zd ?_ | refine Zm ?_ | refine ZH ?_ | refine Zy ?_ | refine Zi ?_ | refine Zz ?_ | refine vc110 h149 h110 rfl (by first | omega | (simp only [List.length_take]; omega)) ?_ | refine vc111 h150 h111 ?_ | simp (maxSteps := 2000000) (disch := first | assumption | omega | fail) only [go_sem, -Int.reduceOfNat, *, ISG, and_assoc, exists_and_left, D.str.injEq, Nat.lt_irrefl, List.getD_cons_zero, List.getD_cons_succ, YV, true_implies, false_implies, implies_true, Option.some.injEq, AObj.cells.injEq, D.int.injEq, D.ptr.injEq, Int.ofNat.injEq, exists_eq_left'] | ((first | refine ZL ?_ ?_ | refine ZC ?_ ?_ | refine ZK ?_ ?_ | refine ZA ?_ ?_ | refine ZB ?_ ?_ | refine Zj ?_ ?_) <;> intro _) | (refine ⟨28 - k, by omega, ?_⟩) | exact gs | assumption | exact signsD_ag | (intro _; intros) | (show _ < _; omega) | (show _ ≤ _; omega) | (show ¬ (_ : Nat) = _; omega) | (show (_ : Nat) = _; omega) | refine And.intro ?_ ?_ | (refine ⟨?_, ?_⟩) | fail))
end
section
attribute [local go_sem] atS_some cfin_mid oMid_some
variable {lp : Nat} {h : H} {Q : D → H → Prop} {R : Pan}
def TokR (x : Tok) (c : List D) : Prop := c = tokC x
theorem tokR_mk {k n a b : Nat} {s : List Nat} : TokR ⟨k, s, n, a, b⟩ [.int .i64 (.ofNat k), .str s, .int .u64 (.ofNat n), .int .i64 (.ofNat a), .int .i64 (.ofNat b)] := rfl
theorem slR_cells {α : Type} {F : α → List D → Prop} {z : Nat} {d : D} {xs : List α} (hr : SlR F z d xs) : d.cells = [d] := by
  obtain ⟨cs, r, _, ⟨rfl, rfl⟩ | ⟨id, rfl, _⟩⟩ := hr <;> rfl
def LEX (x : Option (List Tok × Nat × Nat × Nat)) (F : List Tok → Nat → Nat → Nat → Prop) : Prop :=
  match x with
  | some (ts, a, b, e) => F ts a b e
  | none => False
theorem LEX_some {ts : List Tok} {a b e : Nat} {F : List Tok → Nat → Nat → Nat → Prop} : LEX (some (ts, a, b, e)) F ↔ F ts a b e := Iff.rfl
theorem LEX_none {F : List Tok → Nat → Nat → Nat → Prop} : LEX none F ↔ False := Iff.rfl
theorem run_pos_take {cut s : List Nat} (h : 0 < Xe cut s) : (s.take (Xe cut s)).length = Xe cut s := by
  rw [List.length_take]; exact Nat.min_eq_left (YV _ _)
theorem numS_s {w : List Nat} (h : (numS w).1 = 0) : (numS w).2.s = w := by
  unfold numS at h ⊢
  repeat' split at h
  all_goals first | (cases h; done) | simp [*]
theorem signS_mem : ∀ {l : List (List Nat)} {r p : List Nat}, signS l r = some p → p ∈ l ∧ isP p r
  | [], r, p, h => by simp [signS] at h
  | q :: l, r, p, h => by
    unfold signS at h
    split at h
    · rename_i hq
      cases h
      exact ⟨List.mem_cons_self .., hq⟩
    · have := signS_mem h
      exact ⟨List.mem_cons_of_mem _ this.1, this.2⟩
theorem sign_len {p : List Nat} (h : p ∈ signs) : 0 < p.length := by
  revert p
  decide
theorem tokS_pre {r : List Nat} (h : (tokS r).1 = 0) : isP (tokS r).2.s r ∧ 0 < (tokS r).2.s.length := by
  have hl := YV cRun r
  have ht : ∀ n, n ≤ r.length → isP (r.take n) r := fun n hn => by
    unfold isP
    rw [List.length_take, Nat.min_eq_left hn]
  unfold tokS at h ⊢
  split at h
  · rename_i h0
    have hlt := run_pos_take h0
    rw [if_pos h0]
    split at h
    · rename_i h1
      rw [if_pos h1, numS_s h, hlt]
      exact ⟨ht _ hl, h0⟩
    · rename_i h1
      split at h
      · cases h
      · rename_i h2
        rw [if_neg h1, if_neg h2]
        exact ⟨ht _ hl, by rw [hlt]; exact h0⟩
  · rename_i h0
    rw [if_neg h0]
    split at h
    · rename_i p hp
      have := signS_mem hp
      exact ⟨this.2, sign_len this.1⟩
    · cases h
theorem isP_len {p s : List Nat} (h : isP p s) : p.length ≤ s.length := by
  have := congrArg List.length (show s.take p.length = p from h)
  rw [List.length_take] at this
  omega
abbrev FLX (h : H) (Q : D → H → Prop) (ts : List Tok) (a b e : Nat) : Prop :=
  ∀ h' d, SlR TokR 5 d ts → d.cells = [d] → d.one = true → h.next ≤ h'.next → (∀ l : Nat, l < h.next → Zg h'.mem l = Zg h.mem l) → Q (.tup [d, .agg [.int .i64 (.ofNat a), .int .i64 (.ofNat b)], .int .i64 (.ofNat e)]) h'
abbrev ILX (h : H) (Q : D → H → Prop) (m : Nat) (t1 : Tr D) (h1 : H) : Prop :=
  Gt 3 t1 = .ptr h.next 0 ∧ Gt 5 t1 = .ptr (h.next + 1) 0 ∧ h.next + 2 ≤ h1.next ∧ (∀ l : Nat, l < h.next → Zg h1.mem l = Zg h.mem l) ∧ ∃ z, Zg h1.mem h.next = some (.cells 66 z) ∧ z.length = 2 ∧ ∃ r, ∃ a, ∃ b, Zg h1.mem (h.next + 1) = some (.cells 169 [.str r, .int .i64 (.ofNat a), .int .i64 (.ofNat b)]) ∧ ∃ ts, SlR TokR 5 (Gt 6 t1) ts ∧ D.same (Gt 6 t1) (Gt 6 t1) = true ∧ Tp h1 172 (Gt 6 t1) ts.length ∧ Bnd (Gt 6 t1) h1.next ∧ ZQ (Gt 6 t1) h.next ∧ ZQ (Gt 6 t1) (h.next + 1) ∧ ZW (Gt 6 t1) (.v (.slice none 0 0)) h.next ∧ r.length + 1 ≤ m ∧ ts.length + r.length ≤ 16384 ∧ 2 * r.length + a + b ≤ 100000 ∧ LEX (lexS m r a b ts) (FLX h Q)
theorem tok_same {d : D} {xs : List Tok} (hr : SlR TokR 5 d xs) : D.same d d = true := slR_same (fun x c h => by unfold TokR at h; subst h; simp only [tokC, Yw, Xd, Xn, YN, Bool.and_self]) hr
theorem vc42 (h149 : T 150 = flib Xx) (h112 : T 113 = flib libCut) (h113 : T 114 = flib libNum) (h110 : T 111 = q110) (h150 : T 151 = q150) (h111 : T 112 = q111) (h72 : T 73 = q72) (h70 : T 71 = q70) (h71 : T 72 = q71) (h42 : T 43 = q42) {s : List Nat} (hq : (16384 < s.length → FLX h Q [] 1 1 7) ∧ (¬ 16384 < s.length → LEX (lexS (s.length + 1) s 1 1 []) (FLX h Q))) : VC E T 43 [.str s] h Q R := by
  refine Ya h42 ?_
  unfold ZV
  by_cases h0 : 16384 < s.length
  · have hk := hq.1 h0
    clear hq
    repeat' (with_reducible (first | refine Zk ?_ | refine Zl ?_ | refine ZG ?_ | refine ZF ?_ | refine Zn ?_ | refine Zd ?_ | refine Zm ?_ | refine ZH ?_ | refine Zy ?_ | refine Zi ?_ | refine Zz ?_ | refine vc70 h149 h112 h110 h150 h111 h72 h70 ?_ | refine vc71 h149 h113 h110 h150 h111 h71 ?_ | refine vc72 h72 ?_ | simp (maxSteps := 2000000) (disch := first | assumption | ((try refine Yy (by assumption) ?_); (show ZQ _ _; first | assumption | ((iterate 6 (try refine Zx (by assumption) (by omega) ?_)); first | assumption | exact Zw (by assumption) (by omega) | exact Zv (by assumption) (by assumption) | exact Zf | exact Y5 (by assumption) (by assumption) (by assumption) (by omega) (by assumption)))) | omega | (simp only [Z4, Z3, List.length_cons, List.length_nil, List.length_append, List.length_take, List.length_drop]; omega) | fail) only [go_sem, -Int.reduceOfNat, *, ILX, FLX, and_assoc, exists_and_left, D.str.injEq, Nat.lt_irrefl, List.getD_cons_zero, List.getD_cons_succ, YV, true_implies, false_implies, implies_true, gt_iff_lt, eq_self, exists_eq_left', D.agg.injEq, Option.some.injEq, AObj.cells.injEq, D.int.injEq, D.ptr.injEq, Int.ofNat.injEq, exists_eq_left'] | ((first | refine ZL ?_ ?_ | refine ZC ?_ ?_ | refine ZK ?_ ?_ | refine ZA ?_ ?_ | refine ZB ?_ ?_ | refine Zj ?_ ?_) <;> intro _) | (show Q _ _; refine hk _ _ SlR.nil rfl rfl ?_ ?_) | assumption | (refine ⟨_, SlR.nil, ?_⟩) | (refine ⟨_, by assumption, ?_⟩) | exact Tp.nil | exact Y9 | exact Zf | exact ZW.refl | exact tok_same (by assumption) | (intro _; intros) | (show _ < _; omega) | (show _ ≤ _; omega) | (show ¬ (_ : Nat) = _; omega) | (show (_ : Nat) ≠ _; omega) | (show (_ : Nat) = _; omega) | (show ZQ _ _; first | assumption | ((iterate 6 (try refine Zx (by assumption) (by omega) ?_)); first | assumption | exact Zw (by assumption) (by omega) | exact Zv (by assumption) (by assumption) | exact Zf | exact Y5 (by assumption) (by assumption) (by assumption) (by omega) (by assumption))) | refine And.intro ?_ ?_ | (refine ZX (by assumption) ?_) | (refine ZW.trans (by assumption) (by first | omega | (simp only [Z4, Z3]; omega)) ?_) | (refine Tp.mono (by assumption) ?_ (fun _ _ _ => ?_)) | (refine ⟨?_, ?_⟩) | (rw [List.length_drop]; omega) | (rw [List.length_drop]; omega) | (rw [List.length_append, List.length_drop]; simp only [List.length_cons, List.length_nil]; omega) | fail))
  · have hk := hq.2 h0
    clear hq
    repeat' (with_reducible (first | refine Zk ?_ | refine Zl ?_ | refine ZG ?_ | refine ZF ?_ | refine Zn ?_ | refine Zd ?_ | refine Zm ?_ | refine ZH ?_ | refine Zy ?_ | refine Zi ?_ | refine Zz ?_ | refine vc70 h149 h112 h110 h150 h111 h72 h70 ?_ | refine vc71 h149 h113 h110 h150 h111 h71 ?_ | refine vc72 h72 ?_ | simp (maxSteps := 2000000) (disch := first | assumption | ((try refine Yy (by assumption) ?_); (show ZQ _ _; first | assumption | ((iterate 6 (try refine Zx (by assumption) (by omega) ?_)); first | assumption | exact Zw (by assumption) (by omega) | exact Zv (by assumption) (by assumption) | exact Zf | exact Y5 (by assumption) (by assumption) (by assumption) (by omega) (by assumption)))) | omega | (simp only [Z4, Z3, List.length_cons, List.length_nil, List.length_append, List.length_take, List.length_drop]; omega) | fail) only [go_sem, -Int.reduceOfNat, *, ILX, FLX, and_assoc, exists_and_left, D.str.injEq, Nat.lt_irrefl, List.getD_cons_zero, List.getD_cons_succ, YV, true_implies, false_implies, implies_true, gt_iff_lt, eq_self, exists_eq_left', D.agg.injEq, Option.some.injEq, AObj.cells.injEq, D.int.injEq, D.ptr.injEq, Int.ofNat.injEq, exists_eq_left'] | ((first | refine ZL ?_ ?_ | refine ZC ?_ ?_ | refine ZK ?_ ?_ | refine ZA ?_ ?_ | refine ZB ?_ ?_ | refine Zj ?_ ?_) <;> intro _) | (refine W4 (ILX h Q) (n := s.length + 1) ?_ ?_) | assumption | (refine ⟨_, SlR.nil, ?_⟩) | (refine ⟨_, by assumption, ?_⟩) | exact Tp.nil | exact Y9 | exact Zf | exact ZW.refl | exact tok_same (by assumption) | (intro _; intros) | (show _ < _; omega) | (show _ ≤ _; omega) | (show ¬ (_ : Nat) = _; omega) | (show (_ : Nat) ≠ _; omega) | (show (_ : Nat) = _; omega) | (show ZQ _ _; first | assumption | ((iterate 6 (try refine Zx (by assumption) (by omega) ?_)); first | assumption | exact Zw (by assumption) (by omega) | exact Zv (by assumption) (by assumption) | exact Zf | exact Y5 (by assumption) (by assumption) (by assumption) (by omega) (by assumption))) | refine And.intro ?_ ?_ | (refine ZX (by assumption) ?_) | (refine ZW.trans (by assumption) (by first | omega | (simp only [Z4, Z3]; omega)) ?_) | (refine Tp.mono (by assumption) ?_ (fun _ _ _ => ?_)) | (refine ⟨?_, ?_⟩) | (rw [List.length_drop]; omega) | (rw [List.length_drop]; omega) | (rw [List.length_append, List.length_drop]; simp only [List.length_cons, List.length_nil]; omega) | fail))
    all_goals
      rintro (_ | m) t1 h1 ⟨g3, g5, gn, gf, z, gz, gzl, r, a, b, gc, ts, gT, gsm, gTp, gB, no1, no2, gI, gm, gl, gb, hk⟩
      · omega
      generalize hd6 : Gt 6 t1 = d at gT gsm gTp gB no1 no2 gI
      have hpb := pass_bound false r a b
      have hpl := pass_len false r a b
      unfold lexS at hk
      generalize hP : Ym false r a b = P at hk hpb hpl
      obtain ⟨r2, a2, b2⟩ := P
      simp only at hpb hpl
      by_cases hr : r2 = []
      · subst hr
        simp only [if_true, LEX_some] at hk
        repeat' (with_reducible (first | refine Zk ?_ | refine Zl ?_ | refine ZG ?_ | refine ZF ?_ | refine Zn ?_ | refine Zd ?_ | refine Zm ?_ | refine ZH ?_ | refine Zy ?_ | refine Zi ?_ | refine Zz ?_ | refine vc70 h149 h112 h110 h150 h111 h72 h70 ?_ | refine vc71 h149 h113 h110 h150 h111 h71 ?_ | refine vc72 h72 ?_ | simp (maxSteps := 2000000) (disch := first | assumption | ((try refine Yy (by assumption) ?_); (show ZQ _ _; first | assumption | ((iterate 6 (try refine Zx (by assumption) (by omega) ?_)); first | assumption | exact Zw (by assumption) (by omega) | exact Zv (by assumption) (by assumption) | exact Zf | exact Y5 (by assumption) (by assumption) (by assumption) (by omega) (by assumption)))) | omega | (simp only [Z4, Z3, List.length_cons, List.length_nil, List.length_append, List.length_take, List.length_drop]; omega) | fail) only [go_sem, -Int.reduceOfNat, *, ILX, FLX, and_assoc, exists_and_left, D.str.injEq, Nat.lt_irrefl, List.getD_cons_zero, List.getD_cons_succ, YV, true_implies, false_implies, implies_true, gt_iff_lt, eq_self, exists_eq_left', D.agg.injEq, Option.some.injEq, AObj.cells.injEq, D.int.injEq, D.ptr.injEq, Int.ofNat.injEq, exists_eq_left'] | ((first | refine ZL ?_ ?_ | refine ZC ?_ ?_ | refine ZK ?_ ?_ | refine ZA ?_ ?_ | refine ZB ?_ ?_ | refine Zj ?_ ?_) <;> intro _) | (refine vO_app (F := TokR) (xs := ts) gT (Tp.mono gTp ?_ (fun _ _ _ => ?_)) tokR_mk ?_ ?_ ?_ ?_ ?_ ?_) | (show Q _ _; refine hk _ _ (by assumption) (slR_cells (by assumption)) (XF (by assumption)) ?_ ?_) | assumption | (refine ⟨_, SlR.nil, ?_⟩) | (refine ⟨_, by assumption, ?_⟩) | exact Tp.nil | exact Y9 | exact Zf | exact ZW.refl | exact tok_same (by assumption) | (intro _; intros) | (show _ < _; omega) | (show _ ≤ _; omega) | (show ¬ (_ : Nat) = _; omega) | (show (_ : Nat) ≠ _; omega) | (show (_ : Nat) = _; omega) | (show ZQ _ _; first | assumption | ((iterate 6 (try refine Zx (by assumption) (by omega) ?_)); first | assumption | exact Zw (by assumption) (by omega) | exact Zv (by assumption) (by assumption) | exact Zf | exact Y5 (by assumption) (by assumption) (by assumption) (by omega) (by assumption))) | refine And.intro ?_ ?_ | (refine ZX (by assumption) ?_) | (refine ZW.trans (by assumption) (by first | omega | (simp only [Z4, Z3]; omega)) ?_) | (refine Tp.mono (by assumption) ?_ (fun _ _ _ => ?_)) | (refine ⟨?_, ?_⟩) | (rw [List.length_drop]; omega) | (rw [List.length_drop]; omega) | (rw [List.length_append, List.length_drop]; simp only [List.length_cons, List.length_nil]; omega) | fail))
      · by_cases he : (tokS r2).1 = 0
        · have h255 : (tokS r2).1 ≠ 255 := by omega
          obtain ⟨hpre, hlen⟩ := tokS_pre he
          have hll := isP_len hpre
          have hpb2 := pos_bound (r2.take (tokS r2).2.s.length) a2 b2
          rw [List.length_take, Nat.min_eq_left hll] at hpb2
          simp only [if_neg hr, if_pos he] at hk
          generalize hX : tokS r2 = X at hk he hlen hpb2 hpre hll h255
          obtain ⟨e0, ⟨k0, s0, n0, x0, y0⟩⟩ := X
          simp only at he hk hlen hpb2 hpre hll h255
          subst he
          repeat' (with_reducible (first | refine Zk ?_ | refine Zl ?_ | refine ZG ?_ | refine ZF ?_ | refine Zn ?_ | refine Zd ?_ | refine Zm ?_ | refine ZH ?_ | refine Zy ?_ | refine Zi ?_ | refine Zz ?_ | refine vc70 h149 h112 h110 h150 h111 h72 h70 ?_ | refine vc71 h149 h113 h110 h150 h111 h71 ?_ | refine vc72 h72 ?_ | simp (maxSteps := 2000000) (disch := first | assumption | ((try refine Yy (by assumption) ?_); (show ZQ _ _; first | assumption | ((iterate 6 (try refine Zx (by assumption) (by omega) ?_)); first | assumption | exact Zw (by assumption) (by omega) | exact Zv (by assumption) (by assumption) | exact Zf | exact Y5 (by assumption) (by assumption) (by assumption) (by omega) (by assumption)))) | omega | (simp only [Z4, Z3, List.length_cons, List.length_nil, List.length_append, List.length_take, List.length_drop]; omega) | fail) only [go_sem, -Int.reduceOfNat, *, ILX, FLX, and_assoc, exists_and_left, D.str.injEq, Nat.lt_irrefl, List.getD_cons_zero, List.getD_cons_succ, YV, true_implies, false_implies, implies_true, gt_iff_lt, eq_self, exists_eq_left', D.agg.injEq, Option.some.injEq, AObj.cells.injEq, D.int.injEq, D.ptr.injEq, Int.ofNat.injEq, exists_eq_left'] | ((first | refine ZL ?_ ?_ | refine ZC ?_ ?_ | refine ZK ?_ ?_ | refine ZA ?_ ?_ | refine ZB ?_ ?_ | refine Zj ?_ ?_) <;> intro _) | (refine vO_app (F := TokR) (xs := ts) gT (Tp.mono gTp ?_ (fun _ _ _ => ?_)) tokR_mk ?_ ?_ ?_ ?_ ?_ ?_) | (refine ⟨m, Nat.lt_succ_self _, ?_⟩) | assumption | (refine ⟨_, SlR.nil, ?_⟩) | (refine ⟨_, by assumption, ?_⟩) | exact Tp.nil | exact Y9 | exact Zf | exact ZW.refl | exact tok_same (by assumption) | (intro _; intros) | (show _ < _; omega) | (show _ ≤ _; omega) | (show ¬ (_ : Nat) = _; omega) | (show (_ : Nat) ≠ _; omega) | (show (_ : Nat) = _; omega) | (show ZQ _ _; first | assumption | ((iterate 6 (try refine Zx (by assumption) (by omega) ?_)); first | assumption | exact Zw (by assumption) (by omega) | exact Zv (by assumption) (by assumption) | exact Zf | exact Y5 (by assumption) (by assumption) (by assumption) (by omega) (by assumption))) | refine And.intro ?_ ?_ | (refine ZX (by assumption) ?_) | (refine ZW.trans (by assumption) (by first | omega | (simp only [Z4, Z3]; omega)) ?_) | (refine Tp.mono (by assumption) ?_ (fun _ _ _ => ?_)) | (refine ⟨?_, ?_⟩) | (rw [List.length_drop]; omega) | (rw [List.length_drop]; omega) | (rw [List.length_append, List.length_drop]; simp only [List.length_cons, List.length_nil]; omega) | fail))
        · by_cases h255 : (tokS r2).1 = 255
          · simp only [if_neg hr, if_neg he, if_pos h255, LEX_none] at hk
          simp only [if_neg hr, if_neg he, if_neg h255, LEX_some] at hk
          generalize hX : tokS r2 = X at hk he h255
          obtain ⟨e0, ⟨k0, s0, n0, x0, y0⟩⟩ := X
          simp only at he hk h255
          repeat' (with_reducible (first | refine Zk ?_ | refine Zl ?_ | refine ZG ?_ | refine ZF ?_ | refine Zn ?_ | refine Zd ?_ | refine Zm ?_ | refine ZH ?_ | refine Zy ?_ | refine Zi ?_ | refine Zz ?_ | refine vc70 h149 h112 h110 h150 h111 h72 h70 ?_ | refine vc71 h149 h113 h110 h150 h111 h71 ?_ | refine vc72 h72 ?_ | simp (maxSteps := 2000000) (disch := first | assumption | ((try refine Yy (by assumption) ?_); (show ZQ _ _; first | assumption | ((iterate 6 (try refine Zx (by assumption) (by omega) ?_)); first | assumption | exact Zw (by assumption) (by omega) | exact Zv (by assumption) (by assumption) | exact Zf | exact Y5 (by assumption) (by assumption) (by assumption) (by omega) (by assumption)))) | omega | (simp only [Z4, Z3, List.length_cons, List.length_nil, List.length_append, List.length_take, List.length_drop]; omega) | fail) only [go_sem, -Int.reduceOfNat, *, ILX, FLX, and_assoc, exists_and_left, D.str.injEq, Nat.lt_irrefl, List.getD_cons_zero, List.getD_cons_succ, YV, true_implies, false_implies, implies_true, gt_iff_lt, eq_self, exists_eq_left', D.agg.injEq, Option.some.injEq, AObj.cells.injEq, D.int.injEq, D.ptr.injEq, Int.ofNat.injEq, exists_eq_left'] | ((first | refine ZL ?_ ?_ | refine ZC ?_ ?_ | refine ZK ?_ ?_ | refine ZA ?_ ?_ | refine ZB ?_ ?_ | refine Zj ?_ ?_) <;> intro _) | (show Q _ _; refine hk _ _ SlR.nil rfl rfl ?_ ?_) | assumption | (refine ⟨_, SlR.nil, ?_⟩) | (refine ⟨_, by assumption, ?_⟩) | exact Tp.nil | exact Y9 | exact Zf | exact ZW.refl | exact tok_same (by assumption) | (intro _; intros) | (show _ < _; omega) | (show _ ≤ _; omega) | (show ¬ (_ : Nat) = _; omega) | (show (_ : Nat) ≠ _; omega) | (show (_ : Nat) = _; omega) | (show ZQ _ _; first | assumption | ((iterate 6 (try refine Zx (by assumption) (by omega) ?_)); first | assumption | exact Zw (by assumption) (by omega) | exact Zv (by assumption) (by assumption) | exact Zf | exact Y5 (by assumption) (by assumption) (by assumption) (by omega) (by assumption))) | refine And.intro ?_ ?_ | (refine ZX (by assumption) ?_) | (refine ZW.trans (by assumption) (by first | omega | (simp only [Z4, Z3]; omega)) ?_) | (refine Tp.mono (by assumption) ?_ (fun _ _ _ => ?_)) | (refine ⟨?_, ?_⟩) | (rw [List.length_drop]; omega) | (rw [List.length_drop]; omega) | (rw [List.length_append, List.length_drop]; simp only [List.length_cons, List.length_nil]; omega) | fail))
end
end Run
end Go.Abs
