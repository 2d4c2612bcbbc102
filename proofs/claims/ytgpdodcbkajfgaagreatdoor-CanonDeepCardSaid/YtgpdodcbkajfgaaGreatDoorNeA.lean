/- The words of descriptions: walks of the program. -/
import Derived.Test.YtgpdodcbkajfgaaGreatDoorNeW
set_option linter.unusedVariables false
set_option linter.unusedSimpArgs false
namespace Go.Abs
namespace Run
variable {E : Env} {T : Nat → FFn}
set_option maxHeartbeats 4000000
set_option maxRecDepth 100000
attribute [local go_sem] vr_mv vr_len vr_fa vr_nil vr_ext vr_not vr_ixs vr_sl vr_ld1 vr_ldN vr_st vr_alloc vr_box vr_mkmap vr_int vr_pick vr_build Wd vr_look vr_mk vr_app vr_sbin vr_fog vr_end vr_b2s vr_lens vr_slstr vr_cint vr_fld vr_iface vr_panic vr_mkf vr_idxs vr_idxa vd_mv vd_fa vd_nil vd_ext vd_ixs vd_alloc vd_build We vd_ld1 vd_ldN vd_st vd_mset vd_app vd_int vd_end vd_cint vd_fld vd_mkf vd_fdg vd_not vd_pick vd_len vd_lens vd_box vd_sbin vd_idxs vO_ok vO_pan vD_ok vRd_ok vL_ok vB_t vB_f vG_t vG_f vDg_t vDg_f lseq_n lseq_r lseq_e kblk_n kblk_r kblk_e lfn_n lfn_r lloop_n lloop_e lloop_r sC_ok lroll_n lroll_e lroll_r oFa_ptr oFa_ep oNil_ptr oNil_ep oLen_sl oLen_row oLen_nil oExt_0 oExt_1 oExt_2 okq_some oNot_bool oSl_nil rc_ptr rc_ep oRd_c oEp oLd1_some oLdN_some oStw_eq oStw_c oInt_int oPick_b XO Xj ffill_nil oFill_some ffill patch oFind_some oFind_none oOne_some oTwo_some cfin_one cfin_two wanted_t wanted_f wanted_u evs_nil evs_cons fargs_nil fargs_cons oLens_str oB2s_nil oApp_unf oApp_unil oSame_some Xv loudOk_rdS mem_cons loudT readT sames_one Option.map_some Option.map_none oCint_n oHd_cons oAg_some oFld_agg oPan_i oEq_str oNe_strs oIdxa_f oPart_some oAdd_str cells_int cells_str cells_agg cells_sl cells_row cells_map cells_ptr cells_bool cells_nil one_nil one_cons one_int one_str one_sl one_row one_map one_ptr one_bool one_vnil Yc dneq dlss dleq dgtr W9 iEq_n iLt_n iLe XY blt_dec ble_dec mem_nil readOk_nil readOk_rd loudOk_nil XP Xt add_small sub_small beqL_dec List.drop_succ_cons List.drop_zero List.drop_nil List.take_succ_cons List.take_zero List.take_nil List.length_cons List.length_nil List.length_append List.cons_append List.nil_append Nat.reduceAdd Nat.reduceEqDiff Nat.reduceLeDiff Nat.reduceLT List.cons.injEq reduceCtorEq eq_self not_true_eq_false not_false_eq_true and_false false_and true_or or_true decide_true decide_false Bool.and_self Bool.and_true Bool.true_and Bool.true_or Bool.or_true Bool.false_or Bool.or_false Bool.false_and Bool.and_false Bool.not_true Bool.not_false cond_true cond_false true_and and_true Gt_St p0_eq kD_eq reduceIte Nat.add_zero Nat.zero_add Nat.add_sub_cancel Nat.reduceMul Nat.reduceSub Nat.reduceBEq List.map_cons List.map_nil Z4 Z3 XR YA X7 Yi
section
def ZV : List (D → Tr D → Tr D) := [St 0, St 1, St 2, St 3, St 4, St 5, St 6, St 7, St 8, St 9, St 10, St 11]
def XJ : FFn := ffn ZV (fun t h => .ok (Gt 4 t) h)
 (Z0 (Z1 <| fo (fmv (kS [])) (St 4) <| Z2)
 (Z0 (Z1 <| fo (fmv (kS [98, 101])) (St 5) <| Z2)
 (Z0 (Z0 (Z1 <| mM 1 6 <| Z2)
 (Z6 (Gt 6) (Z1 <| fo (fmv (kS [108, 101])) (St 5) <| Z2) Z9))
 (Z0 (Z0 (Z1 <| mM 0 7 <| Z2)
 (Zb 0 (Z0 (Z1 <| fo (mQ 3 7 1) (St 9) <| mM 9 8 <| Z2)
 (Z6 (Gt 8) (Z0 (Z1 <| fo (fmv (kS [117, 56])) (St 4) <| Z2)
 Ze) (Z0 (Z1 <| fo (mQ 3 7 2) (St 11) <| mM 11 10 <| Z2)
 (Z6 (Gt 10) (Z0 (Z1 <| mM 5 12 <| fo (Zc Y7 .add 9 (.const (.string ⟨#[117, 49, 54]⟩)) (.tmp 12) (kS [117, 49, 54]) (Gt 12)) (St 13) <| mM 13 4 <| Z2)
 Ze) (Z0 (Z1 <| fo (mQ 3 7 3) (St 15) <| mM 15 14 <| Z2)
 (Z6 (Gt 14) (Z0 (Z1 <| mM 5 16 <| fo (Zc Y7 .add 9 (.const (.string ⟨#[117, 50, 52]⟩)) (.tmp 16) (kS [117, 50, 52]) (Gt 16)) (St 17) <| mM 17 4 <| Z2)
 Ze) (Z0 (Z1 <| fo (mQ 3 7 4) (St 19) <| mM 19 18 <| Z2)
 (Z6 (Gt 18) (Z0 (Z1 <| mM 5 20 <| fo (Zc Y7 .add 9 (.const (.string ⟨#[117, 51, 50]⟩)) (.tmp 20) (kS [117, 51, 50]) (Gt 20)) (St 21) <| mM 21 4 <| Z2)
 Ze) (Z0 (Z1 <| fo (mQ 3 7 8) (St 23) <| mM 23 22 <| Z2)
 (Z6 (Gt 22) (Z0 (Z1 <| mM 5 24 <| fo (Zc Y7 .add 9 (.const (.string ⟨#[117, 54, 52]⟩)) (.tmp 24) (kS [117, 54, 52]) (Gt 24)) (St 25) <| mM 25 4 <| Z2)
 Ze) Z9))))))))))))
 (Z0 (Z1 <| fo (fmv (kS [])) (St 4) <| Z2)
 Ze)))))
def XL : FFn := ffn ZV (fun t h => .ok (.tup [(Gt 2) t, (Gt 3) t, (Gt 4) t]) h)
 (Z0 (Z1 <| fo (fmv (kI 0)) (St 2) <| fo (fmv (kD (.v (.bool false)))) (St 3) <| fo (fmv (kD (.v (.bool false)))) (St 4) <| Z2)
 (Z0 (Z0 (Z1 <| fo (ZR [(.int .i64 (.ofNat 0)), (.int .i64 (.ofNat 0)), (.int .i64 (.ofNat 0)), (.int .i64 (.ofNat 0)), (.int .i64 (.ofNat 0))] [(0, 1, (kI 1)), (1, 1, (kI 2)), (2, 1, (kI 3)), (3, 1, (kI 4)), (4, 1, (kI 8))]) (St 9) <| fo (fmv (kI 0)) (St 10) <| Z2)
 (Zb 0 (Y3 (Z0 (Z1 <| fo (Zc dlss .lss 3 (.tmp 10) (.const (.int .i64 (.ofNat 5))) (Gt 10) (kI 5)) (St 11) <| Z2)
 (Z0 (Z6 (Gt 11) Z9 (Yh 0))
 (Z0 (Zb 1 (Z0 (Z1 <| fo (u2 (r_idxa false 5 1) (Gt 9) (Gt 10)) (St 12) <| mM 12 6 <| Z2)
 (Z0 (Z1 <| fo (ZR [(.v (.bool false)), (.v (.bool false))] [(0, 1, (kD (.v (.bool false)))), (1, 1, (kD (.v (.bool true))))]) (St 13) <| fo (fmv (kI 0)) (St 14) <| Z2)
 (Zb 2 (Y3 (Z0 (Z1 <| fo (Zc dlss .lss 3 (.tmp 14) (.const (.int .i64 (.ofNat 2))) (Gt 14) (kI 2)) (St 15) <| Z2)
 (Z0 (Z6 (Gt 15) Z9 (Yh 2))
 (Z0 (Zb 3 (Z0 (Z1 <| fo (u2 (r_idxa false 2 1) (Gt 13) (Gt 14)) (St 16) <| mM 16 8 <| Z2)
 (Z0 (Z1 <| mM 6 17 <| mM 8 18 <| mK 209 [(Gt 17), (Gt 18)] 19 <| mM 0 20 <| fo (Zc Yc .eql 9 (.tmp 19) (.tmp 20) (Gt 19) (Gt 20)) (St 21) <| Z2)
 (Z6 (Gt 21) (Z0 (Z1 <| mM 6 22 <| mM 8 23 <| mM 22 2 <| mM 23 3 <| fo (fmv (kD (.v (.bool true)))) (St 4) <| Z2)
 Ze) Z9))))
 (Z1 <| fo (Zc Y7 .add 3 (.tmp 14) (.const (.int .i64 (.ofNat 1))) (Gt 14) (kI 1)) (St 24) <| mM 24 14 <| Z2)))))))))
 (Z1 <| fo (Zc Y7 .add 3 (.tmp 10) (.const (.int .i64 (.ofNat 1))) (Gt 10) (kI 1)) (St 25) <| mM 25 10 <| Z2)))))))
 (Z0 (Z1 <| fo (fmv (kI 0)) (St 2) <| fo (fmv (kD (.v (.bool false)))) (St 3) <| fo (fmv (kD (.v (.bool false)))) (St 4) <| Z2)
 Ze)))
def q259 : FFn := ffn ZV (fun t h => .ok (Gt 2 t) h)
 (Z0 (Z1 <| fo (fmv (kI 0)) (St 2) <| Z2)
 (Z0 (Z0 (Z1 <| mM 0 3 <| Z2)
 (Zb 0 (Z0 (Z1 <| fo (Zc Yc .eql 9 (.tmp 3) (.const (.string ⟨#[124, 124]⟩)) (Gt 3) (kS [124, 124])) (St 5) <| mM 5 4 <| Z2)
 (Z6 (Gt 4) (Z0 (Z1 <| fo (fmv (kI 1)) (St 2) <| Z2)
 Ze) (Z0 (Z1 <| fo (Zc Yc .eql 9 (.tmp 3) (.const (.string ⟨#[38, 38]⟩)) (Gt 3) (kS [38, 38])) (St 7) <| mM 7 6 <| Z2)
 (Z6 (Gt 6) (Z0 (Z1 <| fo (fmv (kI 2)) (St 2) <| Z2)
 Ze) (Z0 (Z0 (Z1 <| fo (Zc Yc .eql 9 (.tmp 3) (.const (.string ⟨#[61, 61]⟩)) (Gt 3) (kS [61, 61])) (St 9) <| mM 9 8 <| Z2)
 (Z6 (Gt 8) Z9 (Z0 (Z1 <| fo (Zc Yc .eql 9 (.tmp 3) (.const (.string ⟨#[33, 61]⟩)) (Gt 3) (kS [33, 61])) (St 10) <| mM 10 8 <| Z2)
 (Z6 (Gt 8) Z9 (Z0 (Z1 <| fo (Zc Yc .eql 9 (.tmp 3) (.const (.string ⟨#[60]⟩)) (Gt 3) (kS [60])) (St 11) <| mM 11 8 <| Z2)
 (Z6 (Gt 8) Z9 (Z0 (Z1 <| fo (Zc Yc .eql 9 (.tmp 3) (.const (.string ⟨#[60, 61]⟩)) (Gt 3) (kS [60, 61])) (St 12) <| mM 12 8 <| Z2)
 (Z6 (Gt 8) Z9 (Z0 (Z1 <| fo (Zc Yc .eql 9 (.tmp 3) (.const (.string ⟨#[62]⟩)) (Gt 3) (kS [62])) (St 13) <| mM 13 8 <| Z2)
 (Z6 (Gt 8) Z9 (Z1 <| fo (Zc Yc .eql 9 (.tmp 3) (.const (.string ⟨#[62, 61]⟩)) (Gt 3) (kS [62, 61])) (St 14) <| mM 14 8 <| Z2)))))))))))
 (Z6 (Gt 8) (Z0 (Z1 <| fo (fmv (kI 3)) (St 2) <| Z2)
 Ze) (Z0 (Z1 <| fo (Zc Yc .eql 9 (.tmp 3) (.const (.string ⟨#[124]⟩)) (Gt 3) (kS [124])) (St 16) <| mM 16 15 <| Z2)
 (Z6 (Gt 15) (Z0 (Z1 <| fo (fmv (kI 4)) (St 2) <| Z2)
 Ze) (Z0 (Z1 <| fo (Zc Yc .eql 9 (.tmp 3) (.const (.string ⟨#[38]⟩)) (Gt 3) (kS [38])) (St 18) <| mM 18 17 <| Z2)
 (Z6 (Gt 17) (Z0 (Z1 <| fo (fmv (kI 5)) (St 2) <| Z2)
 Ze) (Z0 (Z0 (Z1 <| fo (Zc Yc .eql 9 (.tmp 3) (.const (.string ⟨#[60, 60]⟩)) (Gt 3) (kS [60, 60])) (St 20) <| mM 20 19 <| Z2)
 (Z6 (Gt 19) Z9 (Z1 <| fo (Zc Yc .eql 9 (.tmp 3) (.const (.string ⟨#[62, 62]⟩)) (Gt 3) (kS [62, 62])) (St 21) <| mM 21 19 <| Z2)))
 (Z6 (Gt 19) (Z0 (Z1 <| fo (fmv (kI 6)) (St 2) <| Z2)
 Ze) (Z0 (Z0 (Z1 <| fo (Zc Yc .eql 9 (.tmp 3) (.const (.string ⟨#[43]⟩)) (Gt 3) (kS [43])) (St 23) <| mM 23 22 <| Z2)
 (Z6 (Gt 22) Z9 (Z1 <| fo (Zc Yc .eql 9 (.tmp 3) (.const (.string ⟨#[45]⟩)) (Gt 3) (kS [45])) (St 24) <| mM 24 22 <| Z2)))
 (Z6 (Gt 22) (Z0 (Z1 <| fo (fmv (kI 7)) (St 2) <| Z2)
 Ze) (Z0 (Z0 (Z1 <| fo (Zc Yc .eql 9 (.tmp 3) (.const (.string ⟨#[42]⟩)) (Gt 3) (kS [42])) (St 26) <| mM 26 25 <| Z2)
 (Z6 (Gt 25) Z9 (Z0 (Z1 <| fo (Zc Yc .eql 9 (.tmp 3) (.const (.string ⟨#[47]⟩)) (Gt 3) (kS [47])) (St 27) <| mM 27 25 <| Z2)
 (Z6 (Gt 25) Z9 (Z1 <| fo (Zc Yc .eql 9 (.tmp 3) (.const (.string ⟨#[37]⟩)) (Gt 3) (kS [37])) (St 28) <| mM 28 25 <| Z2)))))
 (Z6 (Gt 25) (Z0 (Z1 <| fo (fmv (kI 8)) (St 2) <| Z2)
 Ze) Z9))))))))))))))))))
 (Z0 (Z1 <| fo (fmv (kI 0)) (St 2) <| Z2)
 Ze)))
def XX : FFn := ffn ZV (fun t h => .ok (Gt 2 t) h)
 (Z0 (Z1 <| fo (fmv (kD (.v (.bool false)))) (St 2) <| Z2)
 (Z0 (Z0 (Z1 <| mM 0 6 <| Z2)
 (Zb 0 (Z0 (Z0 (Z1 <| fo (Zc Yc .eql 9 (.tmp 6) (.const (.string ⟨#[99, 111, 110, 115, 116]⟩)) (Gt 6) (kS [99, 111, 110, 115, 116])) (St 8) <| mM 8 7 <| Z2)
 (Z6 (Gt 7) Z9 (Z0 (Z1 <| fo (Zc Yc .eql 9 (.tmp 6) (.const (.string ⟨#[115, 116, 114, 117, 99, 116]⟩)) (Gt 6) (kS [115, 116, 114, 117, 99, 116])) (St 9) <| mM 9 7 <| Z2)
 (Z6 (Gt 7) Z9 (Z0 (Z1 <| fo (Zc Yc .eql 9 (.tmp 6) (.const (.string ⟨#[112, 97, 99, 107]⟩)) (Gt 6) (kS [112, 97, 99, 107])) (St 10) <| mM 10 7 <| Z2)
 (Z6 (Gt 7) Z9 (Z0 (Z1 <| fo (Zc Yc .eql 9 (.tmp 6) (.const (.string ⟨#[119, 104, 101, 114, 101]⟩)) (Gt 6) (kS [119, 104, 101, 114, 101])) (St 11) <| mM 11 7 <| Z2)
 (Z6 (Gt 7) Z9 (Z0 (Z1 <| fo (Zc Yc .eql 9 (.tmp 6) (.const (.string ⟨#[115, 105, 122, 101, 111, 102]⟩)) (Gt 6) (kS [115, 105, 122, 101, 111, 102])) (St 12) <| mM 12 7 <| Z2)
 (Z6 (Gt 7) Z9 (Z0 (Z1 <| fo (Zc Yc .eql 9 (.tmp 6) (.const (.string ⟨#[99, 111, 117, 110, 116, 111, 102]⟩)) (Gt 6) (kS [99, 111, 117, 110, 116, 111, 102])) (St 13) <| mM 13 7 <| Z2)
 (Z6 (Gt 7) Z9 (Z0 (Z1 <| fo (Zc Yc .eql 9 (.tmp 6) (.const (.string ⟨#[99, 114, 99, 51, 50]⟩)) (Gt 6) (kS [99, 114, 99, 51, 50])) (St 14) <| mM 14 7 <| Z2)
 (Z6 (Gt 7) Z9 (Z0 (Z1 <| fo (Zc Yc .eql 9 (.tmp 6) (.const (.string ⟨#[97, 100, 108, 101, 114, 51, 50]⟩)) (Gt 6) (kS [97, 100, 108, 101, 114, 51, 50])) (St 15) <| mM 15 7 <| Z2)
 (Z6 (Gt 7) Z9 (Z0 (Z1 <| fo (Zc Yc .eql 9 (.tmp 6) (.const (.string ⟨#[98, 121, 116, 101, 115]⟩)) (Gt 6) (kS [98, 121, 116, 101, 115])) (St 16) <| mM 16 7 <| Z2)
 (Z6 (Gt 7) Z9 (Z0 (Z1 <| fo (Zc Yc .eql 9 (.tmp 6) (.const (.string ⟨#[122, 101, 114, 111]⟩)) (Gt 6) (kS [122, 101, 114, 111])) (St 17) <| mM 17 7 <| Z2)
 (Z6 (Gt 7) Z9 (Z0 (Z1 <| fo (Zc Yc .eql 9 (.tmp 6) (.const (.string ⟨#[115, 107, 105, 112]⟩)) (Gt 6) (kS [115, 107, 105, 112])) (St 18) <| mM 18 7 <| Z2)
 (Z6 (Gt 7) Z9 (Z0 (Z1 <| fo (Zc Yc .eql 9 (.tmp 6) (.const (.string ⟨#[119, 105, 110, 100, 111, 119]⟩)) (Gt 6) (kS [119, 105, 110, 100, 111, 119])) (St 19) <| mM 19 7 <| Z2)
 (Z6 (Gt 7) Z9 (Z0 (Z1 <| fo (Zc Yc .eql 9 (.tmp 6) (.const (.string ⟨#[97, 116]⟩)) (Gt 6) (kS [97, 116])) (St 20) <| mM 20 7 <| Z2)
 (Z6 (Gt 7) Z9 (Z0 (Z1 <| fo (Zc Yc .eql 9 (.tmp 6) (.const (.string ⟨#[114, 101, 115, 116]⟩)) (Gt 6) (kS [114, 101, 115, 116])) (St 21) <| mM 21 7 <| Z2)
 (Z6 (Gt 7) Z9 (Z0 (Z1 <| fo (Zc Yc .eql 9 (.tmp 6) (.const (.string ⟨#[116, 97, 105, 108]⟩)) (Gt 6) (kS [116, 97, 105, 108])) (St 22) <| mM 22 7 <| Z2)
 (Z6 (Gt 7) Z9 (Z0 (Z1 <| fo (Zc Yc .eql 9 (.tmp 6) (.const (.string ⟨#[110, 111, 110, 101]⟩)) (Gt 6) (kS [110, 111, 110, 101])) (St 23) <| mM 23 7 <| Z2)
 (Z6 (Gt 7) Z9 (Z0 (Z1 <| fo (Zc Yc .eql 9 (.tmp 6) (.const (.string ⟨#[115, 119, 105, 116, 99, 104]⟩)) (Gt 6) (kS [115, 119, 105, 116, 99, 104])) (St 24) <| mM 24 7 <| Z2)
 (Z6 (Gt 7) Z9 (Z0 (Z1 <| fo (Zc Yc .eql 9 (.tmp 6) (.const (.string ⟨#[99, 97, 115, 101]⟩)) (Gt 6) (kS [99, 97, 115, 101])) (St 25) <| mM 25 7 <| Z2)
 (Z6 (Gt 7) Z9 (Z1 <| fo (Zc Yc .eql 9 (.tmp 6) (.const (.string ⟨#[101, 108, 115, 101]⟩)) (Gt 6) (kS [101, 108, 115, 101])) (St 26) <| mM 26 7 <| Z2)))))))))))))))))))))))))))))))))))))
 (Z6 (Gt 7) (Z0 (Z1 <| fo (fmv (kD (.v (.bool true)))) (St 2) <| Z2)
 Ze) Z9))))
 (Z0 (Z1 <| mM 0 28 <| mK 156 [(Gt 28)] 29 <| mM 29 27 <| mE 0 27 30 <| mE 1 27 31 <| mE 2 27 32 <| mM 30 3 <| mM 31 4 <| mM 32 5 <| Z2)
 (Z0 (Z1 <| mM 5 33 <| mM 33 2 <| Z2)
 Ze))))
def wordOf (size : Nat) (little : Bool) : List Nat :=
  if size = 1 then [117, 56] else if size = 2 then bif little then [117, 49, 54, 108, 101] else [117, 49, 54, 98, 101] else if size = 3 then bif little then [117, 50, 52, 108, 101] else [117, 50, 52, 98, 101] else if size = 4 then bif little then [117, 51, 50, 108, 101] else [117, 51, 50, 98, 101] else if size = 8 then bif little then [117, 54, 52, 108, 101] else [117, 54, 52, 98, 101] else []
def integ (w : List Nat) : Nat × Bool × Bool :=
  if [117, 56] = w then (1, false, true) else if [117, 49, 54, 98, 101] = w then (2, false, true) else if [117, 49, 54, 108, 101] = w then (2, true, true) else if [117, 50, 52, 98, 101] = w then (3, false, true) else if [117, 50, 52, 108, 101] = w then (3, true, true) else if [117, 51, 50, 98, 101] = w then (4, false, true) else if [117, 51, 50, 108, 101] = w then (4, true, true) else if [117, 54, 52, 98, 101] = w then (8, false, true) else if [117, 54, 52, 108, 101] = w then (8, true, true) else (0, false, false)
theorem vc208 (h208 : T 209 = XJ) {size : Nat} {little : Bool} {h : H} {Q : D → H → Prop} {R : Pan} (k : ∀ d, d = .str (wordOf size little) → Q d h) : VC E T 209 [.int .i64 (.ofNat size), .v (.bool little)] h Q R := by
  refine Ya h208 ?_
  unfold ZV
  cases little
  all_goals repeat' (with_reducible (first | refine Zk ?_ | refine Zl ?_ | refine ZG ?_ | refine ZF ?_ | refine Zn ?_ | refine Zd ?_ | refine Zm ?_ | refine ZH ?_ | refine Zy ?_ | refine Zi ?_ | refine Zz ?_ | simp (maxSteps := 2000000) (disch := first | assumption | omega | (simp only [Z4, Z3, List.length_cons, List.length_nil, List.length_append, List.length_take, List.length_drop]; omega) | fail) only [go_sem, -Int.reduceOfNat] | ((first | refine ZL ?_ ?_ | refine ZC ?_ ?_ | refine ZK ?_ ?_ | refine ZA ?_ ?_ | refine ZB ?_ ?_ | refine Zj ?_ ?_) <;> intro _) | (refine Yk ?_) | refine k _ ?_))
  all_goals simp [wordOf, *]
theorem integ_no {w : List Nat} (h : (integ w).2.2 = false) : integ w = (0, false, false) := by
  unfold integ at h ⊢
  repeat' split at h
  all_goals first | (cases h; done) | simp [*]
theorem vc155 (h208 : T 209 = XJ) (h155 : T 156 = XL) {w : List Nat} {h : H} {Q : D → H → Prop} {R : Pan} (hq : ((integ w).2.2 = true → Q (.tup [.int .i64 (.ofNat (integ w).1), .v (.bool (integ w).2.1), .v (.bool true)]) h) ∧ ((integ w).2.2 = false → Q (.tup [.int .i64 (.ofNat 0), .v (.bool false), .v (.bool false)]) h)) : VC E T 156 [.str w] h Q R := by
  have k : ∀ d, d = .tup [.int .i64 (.ofNat (integ w).1), .v (.bool (integ w).2.1), .v (.bool (integ w).2.2)] → Q d h := by
    rintro d rfl
    cases hc : (integ w).2.2 with
    | true => exact hq.1 hc
    | false => rw [integ_no hc]; exact hq.2 hc
  refine Ya h155 ?_
  unfold ZV
  repeat' (with_reducible (first | refine Zk ?_ | refine Zl ?_ | refine ZG ?_ | refine ZF ?_ | refine Zn ?_ | refine Zd ?_ | refine Zm ?_ | refine ZH ?_ | refine Zy ?_ | refine Zi ?_ | refine Zz ?_ | refine vc208 h208 ?_ | simp (maxSteps := 2000000) (disch := first | assumption | omega | (simp only [Z4, Z3, List.length_cons, List.length_nil, List.length_append, List.length_take, List.length_drop]; omega) | fail) only [go_sem, -Int.reduceOfNat, wordOf, *] | ((first | refine ZL ?_ ?_ | refine ZC ?_ ?_ | refine ZK ?_ ?_ | refine ZA ?_ ?_ | refine ZB ?_ ?_ | refine Zj ?_ ?_) <;> intro _) | (refine Yk (vp_keep6 0 6 9 10 13 14 ?_); intro t kt0 kt6 kt9 kt10 kt13 kt14; simp only [go_sem, -Int.reduceOfNat, *] at kt0 kt6 kt9 kt10 kt13 kt14) | (refine Yk ?_) | refine k _ ?_ | (intro _ hd; subst hd)))
  all_goals simp [integ, *]
def level (op : List Nat) : Nat :=
  if op = [124, 124] then 1 else if op = [38, 38] then 2 else if op = [61, 61] then 3 else if op = [33, 61] then 3 else if op = [60] then 3 else if op = [60, 61] then 3 else if op = [62] then 3 else if op = [62, 61] then 3 else if op = [124] then 4 else if op = [38] then 5 else if op = [60, 60] then 6 else if op = [62, 62] then 6 else if op = [43] then 7 else if op = [45] then 7 else if op = [42] then 8 else if op = [47] then 8 else if op = [37] then 8 else 0
theorem vc259 (h259 : T 260 = q259) {op : List Nat} {h : H} {Q : D → H → Prop} {R : Pan} (k : ∀ d, d = .int .i64 (.ofNat (level op)) → Q d h) : VC E T 260 [.str op] h Q R := by
  refine Ya h259 ?_
  unfold ZV
  repeat' (with_reducible (first | refine Zk ?_ | refine Zl ?_ | refine ZG ?_ | refine ZF ?_ | refine Zn ?_ | refine Zd ?_ | refine Zm ?_ | refine ZH ?_ | refine Zy ?_ | refine Zi ?_ | refine Zz ?_ | simp (maxSteps := 2000000) (disch := first | assumption | omega | (simp only [Z4, Z3, List.length_cons, List.length_nil, List.length_append, List.length_take, List.length_drop]; omega) | fail) only [go_sem, -Int.reduceOfNat, *] | ((first | refine ZL ?_ ?_ | refine ZC ?_ ?_ | refine ZK ?_ ?_ | refine ZA ?_ ?_ | refine ZB ?_ ?_ | refine Zj ?_ ?_) <;> intro _) | (refine Yk ?_) | refine k _ ?_))
  all_goals simp [level, *]
def keyw (s : List Nat) : Bool :=
  if s = [99, 111, 110, 115, 116] then true else if s = [115, 116, 114, 117, 99, 116] then true else if s = [112, 97, 99, 107] then true else if s = [119, 104, 101, 114, 101] then true else if s = [115, 105, 122, 101, 111, 102] then true else if s = [99, 111, 117, 110, 116, 111, 102] then true else if s = [99, 114, 99, 51, 50] then true else if s = [97, 100, 108, 101, 114, 51, 50] then true else if s = [98, 121, 116, 101, 115] then true else if s = [122, 101, 114, 111] then true else if s = [115, 107, 105, 112] then true else if s = [119, 105, 110, 100, 111, 119] then true else if s = [97, 116] then true else if s = [114, 101, 115, 116] then true else if s = [116, 97, 105, 108] then true else if s = [110, 111, 110, 101] then true else if s = [115, 119, 105, 116, 99, 104] then true else if s = [99, 97, 115, 101] then true else if s = [101, 108, 115, 101] then true else (integ s).2.2
theorem vc154 (h208 : T 209 = XJ) (h155 : T 156 = XL) (h154 : T 155 = XX) {s : List Nat} {h : H} {Q : D → H → Prop} {R : Pan} (hq : (keyw s = true → Q (.v (.bool true)) h) ∧ (keyw s = false → Q (.v (.bool false)) h)) : VC E T 155 [.str s] h Q R := by
  have k : ∀ d, d = .v (.bool (keyw s)) → Q d h := by
    rintro d rfl
    cases hc : keyw s with
    | true => exact hq.1 hc
    | false => exact hq.2 hc
  refine Ya h154 ?_
  unfold ZV
  repeat' (with_reducible (first | refine Zk ?_ | refine Zl ?_ | refine ZG ?_ | refine ZF ?_ | refine Zn ?_ | refine Zd ?_ | refine Zm ?_ | refine ZH ?_ | refine Zy ?_ | refine Zi ?_ | refine Zz ?_ | refine vc155 h208 h155 ⟨?_, ?_⟩ | simp (maxSteps := 2000000) (disch := first | assumption | omega | (simp only [Z4, Z3, List.length_cons, List.length_nil, List.length_append, List.length_take, List.length_drop]; omega) | fail) only [go_sem, -Int.reduceOfNat, *] | ((first | refine ZL ?_ ?_ | refine ZC ?_ ?_ | refine ZK ?_ ?_ | refine ZA ?_ ?_ | refine ZB ?_ ?_ | refine Zj ?_ ?_) <;> intro _) | (refine Yk ?_) | refine k _ ?_ | intro _))
  all_goals simp [keyw, *]
end
section
def q77 : FFn := ffn ZV (fun t h => YR ⟨[.cN 2 5], .skip⟩ (act t) h)
 (Z0 (Z1 <| fo (Zr 172 [(.int .i64 (.ofNat 0)), (.str []), (.int .u64 (.ofNat 0)), (.int .i64 (.ofNat 0)), (.int .i64 (.ofNat 0))]) (St 2) <| Z2)
 (Z0 (Y1 <| fdo (fmv (Gt 0)) (St 3) <| fdo (u1 ZJ (Gt 3)) (St 4) <| fdo (u1 (YC 0) (Gt 4)) (St 5) <| fdr 3 [] 1 (Gt 5) (Zh (Gt 5)) (St 6) <| fdo (fmv (Gt 0)) (St 7) <| fdo (u1 ZJ (Gt 7)) (St 8) <| fdo (u1 (YC 1) (Gt 8)) (St 9) <| fdr 7 [0, 1, 2, 3] 1 (Gt 9) (Zh (Gt 9)) (St 10) <| fdo (u2 (r_ixs 5) (Gt 6) (Gt 10)) (St 11) <| fdr 9 [] 5 (Gt 11) (ZT 5 (Gt 11)) (St 12) <| fdl 10 [] (ZE 5 (Gt 2) (Gt 12)) p0 <| Y2)
 Ze))
def q78 : FFn := ffn ZV (fun t h => .ok (.tup []) h)
 (Z1 <| mM 0 4 <| mK 78 [(Gt 4)] 5 <| fo (u1 (Xf true 3 2) (Gt 5)) (St 6) <| mM 1 7 <| fo (ZR [(.int .i64 (.ofNat 0)), (.int .i64 (.ofNat 0)), (.int .i64 (.ofNat 0))] [(0, 2, (Gt 6)), (2, 1, (Gt 7))]) (St 8) <| fo (u1 (YX 126) (Gt 8)) (St 9) <| fo (u1 Wb (Gt 9)) p0 <| Z2)
def q73 : FFn := ffn ZV (fun t h => .ok (Gt 4 t) h)
 (Z0 (Z1 <| fo (fmv (kD (.v (.bool false)))) (St 4) <| Z2)
 (Z0 (Z1 <| mM 0 5 <| mK 78 [(Gt 5)] 6 <| fo (u1 (Xf false 0 1) (Gt 6)) (St 7) <| fo (mR 170 7 3) (St 8) <| mM 8 9 <| fog (Gt 9) true (fmv (Gt 0)) (St 10) <| fog (Gt 9) true (Zo 78 [(Gt 10)]) (St 11) <| fog (Gt 9) true (u1 (Xf false 1 1) (Gt 11)) (St 12) <| fog (Gt 9) true (fmv (Gt 1)) (St 13) <| fog (Gt 9) true (Zc Yc .eql 9 (.tmp 12) (.tmp 13) (Gt 12) (Gt 13)) (St 14) <| fo (ZO (Gt 9) (Gt 14) (kD (.v (.bool false)))) (St 15) <| mM 15 4 <| Z2)
 Ze))
def q114 : FFn := ffn ZV (fun t h => .ok (.tup []) h)
 (Z0 (Z0 (Z1 <| mM 0 4 <| mM 1 5 <| mK 74 [(Gt 4), (Gt 5)] 6 <| fo (u1 (r_un .not) (Gt 6)) (St 7) <| Z2)
 (Z6 (Gt 7) (Z1 <| mM 0 8 <| mK 79 [(Gt 8), (kI 4)] 9 <| Z2) Z9))
 (Z1 <| mM 0 10 <| mN 10 11 <| mF 1 11 12 <| mL 12 13 <| fo (Zc Y7 .add 3 (.tmp 13) (.const (.int .i64 (.ofNat 1))) (Gt 13) (kI 1)) (St 14) <| mN 10 15 <| mF 1 15 16 <| mS 16 (Gt 14) <| Z2))
def q117 : FFn := ffn ZV (fun t h => .ok (Gt 4 t) h)
 (Z0 (Z1 <| fo (fmv (kD (.v (.bool false)))) (St 4) <| Z2)
 (Z0 (Z0 (Z1 <| mM 0 5 <| mM 1 6 <| mK 74 [(Gt 5), (Gt 6)] 7 <| Z2)
 (Z6 (Gt 7) (Z0 (Z1 <| mM 0 8 <| mN 8 9 <| mF 1 9 10 <| mL 10 11 <| fo (Zc Y7 .add 3 (.tmp 11) (.const (.int .i64 (.ofNat 1))) (Gt 11) (kI 1)) (St 12) <| mN 8 13 <| mF 1 13 14 <| mS 14 (Gt 12) <| Z2)
 (Z0 (Z1 <| fo (fmv (kD (.v (.bool true)))) (St 4) <| Z2)
 Ze)) Z9))
 (Z0 (Z1 <| fo (fmv (kD (.v (.bool false)))) (St 4) <| Z2)
 Ze)))
def W1 : FFn := ffn ZV (fun t h => .ok (Gt 2 t) h)
 (Z0 (Z1 <| fo (fmv (kD (.v (.bool false)))) (St 2) <| Z2)
 (Z0 (Z1 <| mM 0 3 <| mK 78 [(Gt 3)] 4 <| fo (u1 (Xf false 0 1) (Gt 4)) (St 5) <| fo (mQ 170 5 0) (St 6) <| mM 6 7 <| fog (Gt 7) true (fmv (Gt 0)) (St 8) <| fog (Gt 7) true (Zo 78 [(Gt 8)]) (St 9) <| fog (Gt 7) true (u1 (Xf false 1 1) (Gt 9)) (St 10) <| fog (Gt 7) true (Zo 155 [(Gt 10)]) (St 11) <| fog (Gt 7) true (u1 (r_un .not) (Gt 11)) (St 12) <| fo (ZO (Gt 7) (Gt 12) (kD (.v (.bool false)))) (St 13) <| mM 13 2 <| Z2)
 Ze))
def q115 : FFn := ffn ZV (fun t h => .ok (Gt 2 t) h)
 (Z0 (Z1 <| fo (fmv (kS [])) (St 2) <| Z2)
 (Z0 (Z0 (Z1 <| mM 0 3 <| mK 119 [(Gt 3)] 4 <| fo (u1 (r_un .not) (Gt 4)) (St 5) <| Z2)
 (Z6 (Gt 5) (Z1 <| mM 0 6 <| mK 79 [(Gt 6), (kI 4)] 7 <| Z2) Z9))
 (Z0 (Z1 <| mM 0 8 <| mN 8 9 <| mF 1 9 10 <| mL 10 11 <| fo (Zc Y7 .add 3 (.tmp 11) (.const (.int .i64 (.ofNat 1))) (Gt 11) (kI 1)) (St 12) <| mN 8 13 <| mF 1 13 14 <| mS 14 (Gt 12) <| Z2)
 (Z0 (Y1 <| fdo (fmv (Gt 0)) (St 15) <| fdo (u1 ZJ (Gt 15)) (St 16) <| fdo (u1 (YC 0) (Gt 16)) (St 17) <| fdr 3 [] 1 (Gt 17) (Zh (Gt 17)) (St 18) <| fdo (fmv (Gt 0)) (St 19) <| fdo (u1 ZJ (Gt 19)) (St 20) <| fdo (u1 (YC 1) (Gt 20)) (St 21) <| fdr 7 [0, 1, 2, 3] 1 (Gt 21) (Zh (Gt 21)) (St 22) <| fdo (Zc dsub .sub 3 (.tmp 22) (.const (.int .i64 (.ofNat 1))) (Gt 22) (kI 1)) (St 23) <| fdo (u2 (r_ixs 5) (Gt 18) (Gt 23)) (St 24) <| fdo (u1 (YC 1) (Gt 24)) (St 25) <| fdr 11 [] 1 (Gt 25) (Zh (Gt 25)) (St 26) <| fdo (fmv (Gt 26)) (St 2) <| Y2)
 Ze))))
def q116 : FFn := ffn ZV (fun t h => .ok (Gt 2 t) h)
 (Z0 (Z1 <| fo (fmv (kD (.int .u64 (.ofNat 0)))) (St 2) <| Z2)
 (Z0 (Z0 (Z1 <| mM 0 3 <| mK 78 [(Gt 3)] 4 <| fo (u1 (Xf false 0 1) (Gt 4)) (St 5) <| fo (mR 170 5 1) (St 6) <| Z2)
 (Z6 (Gt 6) (Z1 <| mM 0 7 <| mK 79 [(Gt 7), (kI 4)] 8 <| Z2) Z9))
 (Z0 (Z1 <| mM 0 9 <| mN 9 10 <| mF 1 10 11 <| mL 11 12 <| fo (Zc Y7 .add 3 (.tmp 12) (.const (.int .i64 (.ofNat 1))) (Gt 12) (kI 1)) (St 13) <| mN 9 14 <| mF 1 14 15 <| mS 15 (Gt 13) <| Z2)
 (Z0 (Y1 <| fdo (fmv (Gt 0)) (St 16) <| fdo (u1 ZJ (Gt 16)) (St 17) <| fdo (u1 (YC 0) (Gt 17)) (St 18) <| fdr 3 [] 1 (Gt 18) (Zh (Gt 18)) (St 19) <| fdo (fmv (Gt 0)) (St 20) <| fdo (u1 ZJ (Gt 20)) (St 21) <| fdo (u1 (YC 1) (Gt 21)) (St 22) <| fdr 7 [0, 1, 2, 3] 1 (Gt 22) (Zh (Gt 22)) (St 23) <| fdo (Zc dsub .sub 3 (.tmp 23) (.const (.int .i64 (.ofNat 1))) (Gt 23) (kI 1)) (St 24) <| fdo (u2 (r_ixs 5) (Gt 19) (Gt 24)) (St 25) <| fdo (u1 (YC 2) (Gt 25)) (St 26) <| fdr 11 [] 1 (Gt 26) (Zh (Gt 26)) (St 27) <| fdo (fmv (Gt 27)) (St 2) <| Y2)
 Ze))))
def q74 : FFn := ffn ZV (fun t h => .ok (.tup []) h)
 (Z0 (Z1 <| mM 1 6 <| mM 2 7 <| fo (Zc W9 .geq 3 (.tmp 6) (.tmp 7) (Gt 6) (Gt 7)) (St 8) <| Z2)
 (Z6 (Gt 8) (Z1 <| mM 0 9 <| mK 79 [(Gt 9), (kI 10)] 10 <| Z2) Z9))
def q257 : FFn := ffn ZV (fun t h => .ok (Gt 2 t) h)
 (Z0 (Z1 <| fo (fmv (kD (.v (.bool false)))) (St 2) <| Z2)
 (Z0 (Z1 <| mM 0 3 <| mK 74 [(Gt 3), (kS [33])] 4 <| mM 4 5 <| fog (Gt 5) false (fmv (Gt 0)) (St 6) <| fog (Gt 5) false (Zo 74 [(Gt 6), (kS [40])]) (St 7) <| fo (ZO (Gt 5) (kD (.v (.bool true))) (Gt 7)) (St 8) <| mM 8 9 <| fog (Gt 9) false (fmv (Gt 0)) (St 10) <| fog (Gt 9) false (Zo 119 [(Gt 10)]) (St 11) <| fo (ZO (Gt 9) (kD (.v (.bool true))) (Gt 11)) (St 12) <| mM 12 13 <| fog (Gt 13) false (fmv (Gt 0)) (St 14) <| fog (Gt 13) false (Zo 78 [(Gt 14)]) (St 15) <| fog (Gt 13) false (u1 (Xf false 0 1) (Gt 15)) (St 16) <| fog (Gt 13) false (mQ 170 16 1) (St 17) <| fo (ZO (Gt 13) (kD (.v (.bool true))) (Gt 17)) (St 18) <| mM 18 2 <| Z2)
 Ze))
def q211 : FFn := ffn ZV (fun t h => .ok (Gt 2 t) h)
 (Z0 (Z1 <| fo (fmv (kD (.v (.bool false)))) (St 2) <| Z2)
 (Z0 (Z0 (Z1 <| mM 0 7 <| mK 119 [(Gt 7)] 8 <| Z2)
 (Z6 (Gt 8) (Z0 (Z1 <| fo (fmv (kD (.v (.bool true)))) (St 2) <| Z2)
 Ze) Z9))
 (Z0 (Z0 (Z1 <| mM 0 9 <| mK 78 [(Gt 9)] 10 <| fo (u1 (Xf false 0 1) (Gt 10)) (St 11) <| fo (mR 170 11 0) (St 12) <| Z2)
 (Z6 (Gt 12) (Z0 (Z1 <| fo (fmv (kD (.v (.bool false)))) (St 2) <| Z2)
 Ze) Z9))
 (Z0 (Z1 <| mM 0 13 <| mK 78 [(Gt 13)] 14 <| fo (u1 (Xf false 1 1) (Gt 14)) (St 15) <| mM 15 3 <| Z2)
 (Z0 (Z1 <| mM 3 16 <| Z2)
 (Zb 0 (Z0 (Z0 (Z1 <| fo (Zc Yc .eql 9 (.tmp 16) (.const (.string ⟨#[98, 121, 116, 101, 115]⟩)) (Gt 16) (kS [98, 121, 116, 101, 115])) (St 25) <| mM 25 24 <| Z2)
 (Z6 (Gt 24) Z9 (Z0 (Z1 <| fo (Zc Yc .eql 9 (.tmp 16) (.const (.string ⟨#[122, 101, 114, 111]⟩)) (Gt 16) (kS [122, 101, 114, 111])) (St 26) <| mM 26 24 <| Z2)
 (Z6 (Gt 24) Z9 (Z0 (Z1 <| fo (Zc Yc .eql 9 (.tmp 16) (.const (.string ⟨#[115, 107, 105, 112]⟩)) (Gt 16) (kS [115, 107, 105, 112])) (St 27) <| mM 27 24 <| Z2)
 (Z6 (Gt 24) Z9 (Z0 (Z1 <| fo (Zc Yc .eql 9 (.tmp 16) (.const (.string ⟨#[119, 105, 110, 100, 111, 119]⟩)) (Gt 16) (kS [119, 105, 110, 100, 111, 119])) (St 28) <| mM 28 24 <| Z2)
 (Z6 (Gt 24) Z9 (Z0 (Z1 <| fo (Zc Yc .eql 9 (.tmp 16) (.const (.string ⟨#[97, 116]⟩)) (Gt 16) (kS [97, 116])) (St 29) <| mM 29 24 <| Z2)
 (Z6 (Gt 24) Z9 (Z0 (Z1 <| fo (Zc Yc .eql 9 (.tmp 16) (.const (.string ⟨#[114, 101, 115, 116]⟩)) (Gt 16) (kS [114, 101, 115, 116])) (St 30) <| mM 30 24 <| Z2)
 (Z6 (Gt 24) Z9 (Z0 (Z1 <| fo (Zc Yc .eql 9 (.tmp 16) (.const (.string ⟨#[116, 97, 105, 108]⟩)) (Gt 16) (kS [116, 97, 105, 108])) (St 31) <| mM 31 24 <| Z2)
 (Z6 (Gt 24) Z9 (Z0 (Z1 <| fo (Zc Yc .eql 9 (.tmp 16) (.const (.string ⟨#[110, 111, 110, 101]⟩)) (Gt 16) (kS [110, 111, 110, 101])) (St 32) <| mM 32 24 <| Z2)
 (Z6 (Gt 24) Z9 (Z1 <| fo (Zc Yc .eql 9 (.tmp 16) (.const (.string ⟨#[115, 119, 105, 116, 99, 104]⟩)) (Gt 16) (kS [115, 119, 105, 116, 99, 104])) (St 33) <| mM 33 24 <| Z2)))))))))))))))))
 (Z6 (Gt 24) (Z0 (Z1 <| fo (fmv (kD (.v (.bool true)))) (St 2) <| Z2)
 Ze) (Z0 (Z1 <| mM 3 18 <| mK 156 [(Gt 18)] 19 <| mM 19 17 <| mE 0 17 20 <| mE 1 17 21 <| mE 2 17 22 <| mM 20 4 <| mM 21 5 <| mM 22 6 <| Z2)
 (Z0 (Z1 <| mM 6 23 <| mM 23 2 <| Z2)
 Ze))))))))))
def q212 : FFn := ffn ZV (fun t h => .ok (.tup [(Gt 2) t, (Gt 3) t]) h)
 (Z0 (Z1 <| fo (fmv (kI 0)) (St 2) <| fo (fmv (kD (.v (.bool false)))) (St 3) <| Z2)
 (Z0 (Z0 (Z1 <| mM 0 4 <| Z2)
 (Zb 0 (Z0 (Z1 <| fo (Zc Yc .eql 9 (.tmp 4) (.const (.string ⟨#[98, 121, 116, 101, 115]⟩)) (Gt 4) (kS [98, 121, 116, 101, 115])) (St 6) <| mM 6 5 <| Z2)
 (Z6 (Gt 5) (Z0 (Z1 <| fo (fmv (kI 1)) (St 2) <| fo (fmv (kD (.v (.bool true)))) (St 3) <| Z2)
 Ze) (Z0 (Z1 <| fo (Zc Yc .eql 9 (.tmp 4) (.const (.string ⟨#[122, 101, 114, 111]⟩)) (Gt 4) (kS [122, 101, 114, 111])) (St 8) <| mM 8 7 <| Z2)
 (Z6 (Gt 7) (Z0 (Z1 <| fo (fmv (kI 2)) (St 2) <| fo (fmv (kD (.v (.bool true)))) (St 3) <| Z2)
 Ze) (Z0 (Z1 <| fo (Zc Yc .eql 9 (.tmp 4) (.const (.string ⟨#[115, 107, 105, 112]⟩)) (Gt 4) (kS [115, 107, 105, 112])) (St 10) <| mM 10 9 <| Z2)
 (Z6 (Gt 9) (Z0 (Z1 <| fo (fmv (kI 3)) (St 2) <| fo (fmv (kD (.v (.bool true)))) (St 3) <| Z2)
 Ze) (Z0 (Z1 <| fo (Zc Yc .eql 9 (.tmp 4) (.const (.string ⟨#[119, 105, 110, 100, 111, 119]⟩)) (Gt 4) (kS [119, 105, 110, 100, 111, 119])) (St 12) <| mM 12 11 <| Z2)
 (Z6 (Gt 11) (Z0 (Z1 <| fo (fmv (kI 7)) (St 2) <| fo (fmv (kD (.v (.bool true)))) (St 3) <| Z2)
 Ze) (Z0 (Z1 <| fo (Zc Yc .eql 9 (.tmp 4) (.const (.string ⟨#[97, 116]⟩)) (Gt 4) (kS [97, 116])) (St 14) <| mM 14 13 <| Z2)
 (Z6 (Gt 13) (Z0 (Z1 <| fo (fmv (kI 8)) (St 2) <| fo (fmv (kD (.v (.bool true)))) (St 3) <| Z2)
 Ze) Z9))))))))))))
 (Z0 (Z1 <| fo (fmv (kI 0)) (St 2) <| fo (fmv (kD (.v (.bool false)))) (St 3) <| Z2)
 Ze)))
structure Tok where
  k : Nat
  s : List Nat
  n : Nat
  line : Nat
  col : Nat
  deriving Inhabited
abbrev tokC (t : Tok) : List D := [.int .i64 (.ofNat t.k), .str t.s, .int .u64 (.ofNat t.n), .int .i64 (.ofNat t.line), .int .i64 (.ofNat t.col)]
def Zp (l : List Tok) (i : Nat) : Tok := l.getD i default
structure Toks (d : D) (l : List Tok) : Prop where
  arr : Arr 5 d (l.map tokC)
  small : l.length ≤ 1000000
  more : ∀ i, i < l.length → (Zp l i).k ≠ 3 → i + 1 < l.length
theorem Toks.ix {d : D} {l : List Tok} (hd : Toks d l) {kk : IntKind} {i : Nat} (hi : i < l.length) (h : H) : oIxs 5 d (.int kk (.ofNat i)) h = .ok (.ep (.int .i64 (.ofNat (Zp l i).k) :: .str (Zp l i).s :: .int .u64 (.ofNat (Zp l i).n) :: .int .i64 (.ofNat (Zp l i).line) :: .int .i64 (.ofNat (Zp l i).col) :: ((l.map tokC).drop (i + 1)).flatten)) h := by
  have := hd.arr.at (h := h) (kk := kk) (i := i) (by omega) (by simpa using hi) (c := tokC (Zp l i)) (by simp [Zp, hi])
  exact this
def atP (tk : D) (l : List Tok) (o : Option AObj) (lp n : Nat) (F : Nat → Nat → Nat → Prop) : Prop := ∃ i dep lf, o = some (.cells 129 [tk, .int .i64 (.ofNat i), .int .i64 (.ofNat dep), .ptr lf 0]) ∧ (i < l.length ∧ lp < n) ∧ F i dep lf
theorem YS {tk : D} {l : List Tok} {i dep lf lp n : Nat} {F : Nat → Nat → Nat → Prop} : atP tk l (some (.cells 129 [tk, .int .i64 (.ofNat i), .int .i64 (.ofNat dep), .ptr lf 0])) lp n F ↔ (i < l.length ∧ lp < n) ∧ F i dep lf := by
  constructor
  · rintro ⟨i', d', f', he, hi, hf⟩
    simp only [Option.some.injEq, AObj.cells.injEq, List.cons.injEq, D.int.injEq, D.ptr.injEq, and_true, true_and, Int.ofNat.injEq] at he
    obtain ⟨rfl, rfl, rfl, rfl⟩ := he
    exact ⟨hi, hf⟩
  · rintro ⟨hi, hf⟩
    exact ⟨i, dep, lf, rfl, hi, hf⟩
def isT (t : Tok) (s : List Nat) : Prop := t.k ≠ 3 ∧ t.s = s
instance (t : Tok) (s : List Nat) : Decidable (isT t s) := inferInstanceAs (Decidable (_ ∧ _))
theorem isT_mk {t : Tok} {s : List Nat} (h1 : ¬ t.k = 3) (h2 : t.s = s) : isT t s := ⟨h1, h2⟩
abbrev fault3 (t : Tok) (e : Nat) : D := .iface 126 (.agg [.int .i64 (.ofNat t.line), .int .i64 (.ofNat t.col), .int .i64 (.ofNat e)])
variable {tk : D} {l : List Tok} {lp : Nat} {h : H} {Q : D → H → Prop} {R : Pan}
attribute [local go_sem] YS tokC
theorem vc77 (h77 : T 78 = q77) (tks : Toks tk l) (hq : atP tk l (Zg h.mem lp) lp h.next fun i dep lf => ∀ h', h.next ≤ h'.next → (∀ l, l < h.next → Zg h'.mem l = Zg h.mem l) → Q (.agg (tokC (Zp l i))) h') : VC E T 78 [.ptr lp 0] h Q R := by
  obtain ⟨i, dep, lf, hm, ⟨hi, hn⟩, hk⟩ := hq
  have hsm := tks.small
  have hmo := tks.more i hi
  refine Ya h77 ?_
  unfold ZV
  repeat' (with_reducible (first | refine Zk ?_ | refine Zl ?_ | refine ZG ?_ | refine ZF ?_ | refine Zn ?_ | refine Zd ?_ | refine Zm ?_ | refine ZH ?_ | refine Zy ?_ | refine Zi ?_ | refine Zz ?_ | simp (maxSteps := 2000000) (disch := first | assumption | omega | fail) only [go_sem, -Int.reduceOfNat, *, tks.ix] | ((first | refine ZL ?_ ?_ | refine ZC ?_ ?_ | refine ZK ?_ ?_ | refine ZA ?_ ?_ | refine ZB ?_ ?_ | refine Zj ?_ ?_) <;> intro _) | (refine ⟨⟨by omega, by omega⟩, ?_⟩) | (refine ⟨by omega, ?_⟩) | (refine hk _ ?_ ?_) | (refine q_dec ?_ ?_ <;> intro _) | (refine q_ndec ?_ ?_ <;> intro _) | omega | assumption | intro _ | refine And.intro ?_ ?_ | (refine Yk ?_)))
theorem vc78 (h77 : T 78 = q77) (h78 : T 79 = q78) (tks : Toks tk l) {e : Nat} (hq : atP tk l (Zg h.mem lp) lp h.next fun i dep lf => ∀ h', h.next ≤ h'.next → (∀ l, l < h.next → Zg h'.mem l = Zg h.mem l) → R (fault3 (Zp l i) e) h') : VC E T 79 [.ptr lp 0, .int .i64 (.ofNat e)] h Q R := by
  obtain ⟨i, dep, lf, hm, ⟨hi, hn⟩, hk⟩ := hq
  have hsm := tks.small
  have hmo := tks.more i hi
  refine Ya h78 ?_
  unfold ZV
  repeat' (with_reducible (first | refine Zk ?_ | refine Zl ?_ | refine ZG ?_ | refine ZF ?_ | refine Zn ?_ | refine Zd ?_ | refine Zm ?_ | refine ZH ?_ | refine Zy ?_ | refine Zi ?_ | refine Zz ?_ | refine vc77 h77 tks ?_ | simp (maxSteps := 2000000) (disch := first | assumption | omega | fail) only [go_sem, -Int.reduceOfNat, *, tks.ix] | ((first | refine ZL ?_ ?_ | refine ZC ?_ ?_ | refine ZK ?_ ?_ | refine ZA ?_ ?_ | refine ZB ?_ ?_ | refine Zj ?_ ?_) <;> intro _) | (refine ⟨⟨by omega, by omega⟩, ?_⟩) | (refine ⟨by omega, ?_⟩) | (refine hk _ ?_ ?_) | (refine q_dec ?_ ?_ <;> intro _) | (refine q_ndec ?_ ?_ <;> intro _) | omega | assumption | intro _ | refine And.intro ?_ ?_ | (refine Yk ?_)))
theorem vc73 (h77 : T 78 = q77) (h73 : T 74 = q73) (tks : Toks tk l) {s : List Nat} (hq : atP tk l (Zg h.mem lp) lp h.next fun i dep lf => (isT (Zp l i) s → ∀ h', h.next ≤ h'.next → (∀ l, l < h.next → Zg h'.mem l = Zg h.mem l) → Q (.v (.bool true)) h') ∧ (¬ isT (Zp l i) s → ∀ h', h.next ≤ h'.next → (∀ l, l < h.next → Zg h'.mem l = Zg h.mem l) → Q (.v (.bool false)) h')) : VC E T 74 [.ptr lp 0, .str s] h Q R := by
  obtain ⟨i, dep, lf, hm, ⟨hi, hn⟩, hk⟩ := hq
  have hsm := tks.small
  have hmo := tks.more i hi
  refine Ya h73 ?_
  unfold ZV
  repeat' (with_reducible (first | refine Zk ?_ | refine Zl ?_ | refine ZG ?_ | refine ZF ?_ | refine Zn ?_ | refine Zd ?_ | refine Zm ?_ | refine ZH ?_ | refine Zy ?_ | refine Zi ?_ | refine Zz ?_ | refine vc77 h77 tks ?_ | simp (maxSteps := 2000000) (disch := first | assumption | omega | fail) only [go_sem, -Int.reduceOfNat, *, tks.ix] | ((first | refine ZL ?_ ?_ | refine ZC ?_ ?_ | refine ZK ?_ ?_ | refine ZA ?_ ?_ | refine ZB ?_ ?_ | refine Zj ?_ ?_) <;> intro _) | (refine ⟨⟨by omega, by omega⟩, ?_⟩) | (refine ⟨by omega, ?_⟩) | (refine hk.1 (isT_mk ?_ ?_) _ ?_ ?_) | (refine hk.2 ?_ _ ?_ ?_) | (refine q_dec ?_ ?_ <;> intro _) | (refine q_ndec ?_ ?_ <;> intro _) | omega | assumption | intro _ | refine And.intro ?_ ?_ | (refine Yk ?_)))
  all_goals simp [isT, *]
theorem vc114 (h77 : T 78 = q77) (h78 : T 79 = q78) (h73 : T 74 = q73) (h114 : T 115 = q114) (tks : Toks tk l) {s : List Nat} (hq : atP tk l (Zg h.mem lp) lp h.next fun i dep lf => (isT (Zp l i) s → i + 1 < l.length → ∀ h', h.next ≤ h'.next → (∀ l, l < h.next → l ≠ lp → Zg h'.mem l = Zg h.mem l) → Zg h'.mem lp = some (.cells 129 [tk, .int .i64 (.ofNat (i + 1)), .int .i64 (.ofNat dep), .ptr lf 0]) → Q (.tup []) h') ∧ (¬ isT (Zp l i) s → ∀ h', h.next ≤ h'.next → (∀ l, l < h.next → Zg h'.mem l = Zg h.mem l) → R (fault3 (Zp l i) 4) h')) : VC E T 115 [.ptr lp 0, .str s] h Q R := by
  obtain ⟨i, dep, lf, hm, ⟨hi, hn⟩, hk⟩ := hq
  have hsm := tks.small
  have hmo := tks.more i hi
  refine Ya h114 ?_
  unfold ZV
  have hmt : ∀ s, isT (Zp l i) s → i + 1 < l.length := fun s h => tks.more i hi h.1
  repeat' (with_reducible (first | refine Zk ?_ | refine Zl ?_ | refine ZG ?_ | refine ZF ?_ | refine Zn ?_ | refine Zd ?_ | refine Zm ?_ | refine ZH ?_ | refine Zy ?_ | refine Zi ?_ | refine Zz ?_ | refine vc73 h77 h73 tks ?_ | refine vc78 h77 h78 tks ?_ | simp (maxSteps := 2000000) (disch := first | assumption | omega | fail) only [go_sem, -Int.reduceOfNat, *, tks.ix] | ((first | refine ZL ?_ ?_ | refine ZC ?_ ?_ | refine ZK ?_ ?_ | refine ZA ?_ ?_ | refine ZB ?_ ?_ | refine Zj ?_ ?_) <;> intro _) | (refine ⟨⟨by omega, by omega⟩, ?_⟩) | (refine ⟨by omega, ?_⟩) | (refine hk.1 ?_ (hmt _ (by assumption)) _ ?_ ?_ ?_) | (refine hk.2 ?_ _ ?_ ?_) | (refine q_dec ?_ ?_ <;> intro _) | (refine q_ndec ?_ ?_ <;> intro _) | omega | assumption | intro _ | refine And.intro ?_ ?_ | (refine Yk ?_)))
theorem vc117 (h77 : T 78 = q77) (h73 : T 74 = q73) (h117 : T 118 = q117) (tks : Toks tk l) {s : List Nat} (hq : atP tk l (Zg h.mem lp) lp h.next fun i dep lf => (isT (Zp l i) s → i + 1 < l.length → ∀ h', h.next ≤ h'.next → (∀ l, l < h.next → l ≠ lp → Zg h'.mem l = Zg h.mem l) → Zg h'.mem lp = some (.cells 129 [tk, .int .i64 (.ofNat (i + 1)), .int .i64 (.ofNat dep), .ptr lf 0]) → Q (.v (.bool true)) h') ∧ (¬ isT (Zp l i) s → ∀ h', h.next ≤ h'.next → (∀ l, l < h.next → Zg h'.mem l = Zg h.mem l) → Q (.v (.bool false)) h')) : VC E T 118 [.ptr lp 0, .str s] h Q R := by
  obtain ⟨i, dep, lf, hm, ⟨hi, hn⟩, hk⟩ := hq
  have hsm := tks.small
  have hmo := tks.more i hi
  refine Ya h117 ?_
  unfold ZV
  have hmt : ∀ s, isT (Zp l i) s → i + 1 < l.length := fun s h => tks.more i hi h.1
  repeat' (with_reducible (first | refine Zk ?_ | refine Zl ?_ | refine ZG ?_ | refine ZF ?_ | refine Zn ?_ | refine Zd ?_ | refine Zm ?_ | refine ZH ?_ | refine Zy ?_ | refine Zi ?_ | refine Zz ?_ | refine vc73 h77 h73 tks ?_ | simp (maxSteps := 2000000) (disch := first | assumption | omega | fail) only [go_sem, -Int.reduceOfNat, *, tks.ix] | ((first | refine ZL ?_ ?_ | refine ZC ?_ ?_ | refine ZK ?_ ?_ | refine ZA ?_ ?_ | refine ZB ?_ ?_ | refine Zj ?_ ?_) <;> intro _) | (refine ⟨⟨by omega, by omega⟩, ?_⟩) | (refine ⟨by omega, ?_⟩) | (refine hk.1 ?_ (hmt _ (by assumption)) _ ?_ ?_ ?_) | (refine hk.2 ?_ _ ?_ ?_) | (refine q_dec ?_ ?_ <;> intro _) | (refine q_ndec ?_ ?_ <;> intro _) | omega | assumption | intro _ | refine And.intro ?_ ?_ | (refine Yk ?_)))
def isN (t : Tok) : Prop := t.k = 0 ∧ keyw t.s = false
instance (t : Tok) : Decidable (isN t) := inferInstanceAs (Decidable (_ ∧ _))
theorem isN_mk {t : Tok} (h1 : t.k = 0) (h2 : keyw t.s = false) : isN t := ⟨h1, h2⟩
theorem vc118 (h77 : T 78 = q77) (h208 : T 209 = XJ) (h155 : T 156 = XL) (h154 : T 155 = XX) (h118 : T 119 = W1) (tks : Toks tk l) (hq : atP tk l (Zg h.mem lp) lp h.next fun i dep lf => (isN (Zp l i) → ∀ h', h.next ≤ h'.next → (∀ l, l < h.next → Zg h'.mem l = Zg h.mem l) → Q (.v (.bool true)) h') ∧ (¬ isN (Zp l i) → ∀ h', h.next ≤ h'.next → (∀ l, l < h.next → Zg h'.mem l = Zg h.mem l) → Q (.v (.bool false)) h')) : VC E T 119 [.ptr lp 0] h Q R := by
  obtain ⟨i, dep, lf, hm, ⟨hi, hn⟩, hk⟩ := hq
  have hsm := tks.small
  have hmo := tks.more i hi
  refine Ya h118 ?_
  unfold ZV
  repeat' (with_reducible (first | refine Zk ?_ | refine Zl ?_ | refine ZG ?_ | refine ZF ?_ | refine Zn ?_ | refine Zd ?_ | refine Zm ?_ | refine ZH ?_ | refine Zy ?_ | refine Zi ?_ | refine Zz ?_ | refine vc77 h77 tks ?_ | refine vc154 h208 h155 h154 ⟨?_, ?_⟩ | simp (maxSteps := 2000000) (disch := first | assumption | omega | fail) only [go_sem, -Int.reduceOfNat, *, tks.ix] | ((first | refine ZL ?_ ?_ | refine ZC ?_ ?_ | refine ZK ?_ ?_ | refine ZA ?_ ?_ | refine ZB ?_ ?_ | refine Zj ?_ ?_) <;> intro _) | (refine ⟨⟨by omega, by omega⟩, ?_⟩) | (refine ⟨by omega, ?_⟩) | (refine hk.1 (isN_mk ?_ ?_) _ ?_ ?_) | (refine hk.2 ?_ _ ?_ ?_) | (refine q_dec ?_ ?_ <;> intro _) | (refine q_ndec ?_ ?_ <;> intro _) | omega | assumption | intro _ | refine And.intro ?_ ?_ | (refine Yk ?_)))
  all_goals simp [isN, *]
theorem vc115 (h77 : T 78 = q77) (h78 : T 79 = q78) (h208 : T 209 = XJ) (h155 : T 156 = XL) (h154 : T 155 = XX) (h118 : T 119 = W1) (h115 : T 116 = q115) (tks : Toks tk l) (hq : atP tk l (Zg h.mem lp) lp h.next fun i dep lf => (isN (Zp l i) → i + 1 < l.length → ∀ h', h.next ≤ h'.next → (∀ l, l < h.next → l ≠ lp → Zg h'.mem l = Zg h.mem l) → Zg h'.mem lp = some (.cells 129 [tk, .int .i64 (.ofNat (i + 1)), .int .i64 (.ofNat dep), .ptr lf 0]) → Q (.str (Zp l i).s) h') ∧ (¬ isN (Zp l i) → ∀ h', h.next ≤ h'.next → (∀ l, l < h.next → Zg h'.mem l = Zg h.mem l) → R (fault3 (Zp l i) 4) h')) : VC E T 116 [.ptr lp 0] h Q R := by
  obtain ⟨i, dep, lf, hm, ⟨hi, hn⟩, hk⟩ := hq
  have hsm := tks.small
  have hmo := tks.more i hi
  refine Ya h115 ?_
  unfold ZV
  have hmn : isN (Zp l i) → i + 1 < l.length := fun h => tks.more i hi (by rw [h.1]; decide)
  repeat' (with_reducible (first | refine Zk ?_ | refine Zl ?_ | refine ZG ?_ | refine ZF ?_ | refine Zn ?_ | refine Zd ?_ | refine Zm ?_ | refine ZH ?_ | refine Zy ?_ | refine Zi ?_ | refine Zz ?_ | refine vc118 h77 h208 h155 h154 h118 tks ?_ | refine vc78 h77 h78 tks ?_ | simp (maxSteps := 2000000) (disch := first | assumption | omega | fail) only [go_sem, -Int.reduceOfNat, *, tks.ix] | ((first | refine ZL ?_ ?_ | refine ZC ?_ ?_ | refine ZK ?_ ?_ | refine ZA ?_ ?_ | refine ZB ?_ ?_ | refine Zj ?_ ?_) <;> intro _) | (refine ⟨⟨by omega, by omega⟩, ?_⟩) | (refine ⟨by omega, ?_⟩) | (refine hk.1 ?_ (hmn (by assumption)) _ ?_ ?_ ?_) | (refine hk.2 ?_ _ ?_ ?_) | (refine q_dec ?_ ?_ <;> intro _) | (refine q_ndec ?_ ?_ <;> intro _) | omega | assumption | intro _ | refine And.intro ?_ ?_ | (refine Yk ?_)))
theorem vc116 (h77 : T 78 = q77) (h78 : T 79 = q78) (h116 : T 117 = q116) (tks : Toks tk l) (hq : atP tk l (Zg h.mem lp) lp h.next fun i dep lf => ((Zp l i).k = 1 → i + 1 < l.length → ∀ h', h.next ≤ h'.next → (∀ l, l < h.next → l ≠ lp → Zg h'.mem l = Zg h.mem l) → Zg h'.mem lp = some (.cells 129 [tk, .int .i64 (.ofNat (i + 1)), .int .i64 (.ofNat dep), .ptr lf 0]) → Q (.int .u64 (.ofNat (Zp l i).n)) h') ∧ (¬ (Zp l i).k = 1 → ∀ h', h.next ≤ h'.next → (∀ l, l < h.next → Zg h'.mem l = Zg h.mem l) → R (fault3 (Zp l i) 4) h')) : VC E T 117 [.ptr lp 0] h Q R := by
  obtain ⟨i, dep, lf, hm, ⟨hi, hn⟩, hk⟩ := hq
  have hsm := tks.small
  have hmo := tks.more i hi
  refine Ya h116 ?_
  unfold ZV
  repeat' (with_reducible (first | refine Zk ?_ | refine Zl ?_ | refine ZG ?_ | refine ZF ?_ | refine Zn ?_ | refine Zd ?_ | refine Zm ?_ | refine ZH ?_ | refine Zy ?_ | refine Zi ?_ | refine Zz ?_ | refine vc77 h77 tks ?_ | refine vc78 h77 h78 tks ?_ | simp (maxSteps := 2000000) (disch := first | assumption | omega | fail) only [go_sem, -Int.reduceOfNat, *, tks.ix] | ((first | refine ZL ?_ ?_ | refine ZC ?_ ?_ | refine ZK ?_ ?_ | refine ZA ?_ ?_ | refine ZB ?_ ?_ | refine Zj ?_ ?_) <;> intro _) | (refine ⟨⟨by omega, by omega⟩, ?_⟩) | (refine ⟨by omega, ?_⟩) | (refine hk.1 ?_ ?_ _ ?_ ?_ ?_) | (refine hk.2 ?_ _ ?_ ?_) | (refine q_dec ?_ ?_ <;> intro _) | (refine q_ndec ?_ ?_ <;> intro _) | omega | assumption | intro _ | refine And.intro ?_ ?_ | (refine Yk ?_)))
theorem vc74 (h77 : T 78 = q77) (h78 : T 79 = q78) (h74 : T 75 = q74) (tks : Toks tk l) {a b : Nat} (hq : atP tk l (Zg h.mem lp) lp h.next fun i dep lf => (a < b → ∀ h', h.next ≤ h'.next → (∀ l, l < h.next → Zg h'.mem l = Zg h.mem l) → Q (.tup []) h') ∧ (¬ a < b → ∀ h', h.next ≤ h'.next → (∀ l, l < h.next → Zg h'.mem l = Zg h.mem l) → R (fault3 (Zp l i) 10) h')) : VC E T 75 [.ptr lp 0, .int .i64 (.ofNat a), .int .i64 (.ofNat b)] h Q R := by
  obtain ⟨i, dep, lf, hm, ⟨hi, hn⟩, hk⟩ := hq
  have hsm := tks.small
  have hmo := tks.more i hi
  refine Ya h74 ?_
  unfold ZV
  repeat' (with_reducible (first | refine Zk ?_ | refine Zl ?_ | refine ZG ?_ | refine ZF ?_ | refine Zn ?_ | refine Zd ?_ | refine Zm ?_ | refine ZH ?_ | refine Zy ?_ | refine Zi ?_ | refine Zz ?_ | refine vc78 h77 h78 tks ?_ | simp (maxSteps := 2000000) (disch := first | assumption | omega | fail) only [go_sem, -Int.reduceOfNat, *, tks.ix] | ((first | refine ZL ?_ ?_ | refine ZC ?_ ?_ | refine ZK ?_ ?_ | refine ZA ?_ ?_ | refine ZB ?_ ?_ | refine Zj ?_ ?_) <;> intro _) | (refine ⟨⟨by omega, by omega⟩, ?_⟩) | (refine ⟨by omega, ?_⟩) | (refine hk.1 ?_ _ ?_ ?_) | (refine hk.2 ?_ _ ?_ ?_) | (refine q_dec ?_ ?_ <;> intro _) | (refine q_ndec ?_ ?_ <;> intro _) | omega | assumption | intro _ | refine And.intro ?_ ?_ | (refine Yk ?_)))
def isB (t : Tok) : Prop := isT t [33] ∨ isT t [40] ∨ isN t ∨ t.k = 1
instance (t : Tok) : Decidable (isB t) := inferInstanceAs (Decidable (_ ∨ _))
theorem vc257 (h77 : T 78 = q77) (h73 : T 74 = q73) (h208 : T 209 = XJ) (h155 : T 156 = XL) (h154 : T 155 = XX) (h118 : T 119 = W1) (h257 : T 258 = q257) (tks : Toks tk l) (hq : atP tk l (Zg h.mem lp) lp h.next fun i dep lf => (isB (Zp l i) → ∀ h', h.next ≤ h'.next → (∀ l, l < h.next → Zg h'.mem l = Zg h.mem l) → Q (.v (.bool true)) h') ∧ (¬ isB (Zp l i) → ∀ h', h.next ≤ h'.next → (∀ l, l < h.next → Zg h'.mem l = Zg h.mem l) → Q (.v (.bool false)) h')) : VC E T 258 [.ptr lp 0] h Q R := by
  obtain ⟨i, dep, lf, hm, ⟨hi, hn⟩, hk⟩ := hq
  have hsm := tks.small
  have hmo := tks.more i hi
  refine Ya h257 ?_
  unfold ZV
  repeat' (with_reducible (first | refine Zk ?_ | refine Zl ?_ | refine ZG ?_ | refine ZF ?_ | refine Zn ?_ | refine Zd ?_ | refine Zm ?_ | refine ZH ?_ | refine Zy ?_ | refine Zi ?_ | refine Zz ?_ | refine vc73 h77 h73 tks ?_ | refine vc118 h77 h208 h155 h154 h118 tks ?_ | refine vc77 h77 tks ?_ | simp (maxSteps := 2000000) (disch := first | assumption | omega | fail) only [go_sem, -Int.reduceOfNat, *, tks.ix] | ((first | refine ZL ?_ ?_ | refine ZC ?_ ?_ | refine ZK ?_ ?_ | refine ZA ?_ ?_ | refine ZB ?_ ?_ | refine Zj ?_ ?_) <;> intro _) | (refine ⟨⟨by omega, by omega⟩, ?_⟩) | (refine ⟨by omega, ?_⟩) | (refine hk.1 ?_ _ ?_ ?_) | (refine hk.2 ?_ _ ?_ ?_) | (refine q_dec ?_ ?_ <;> intro _) | (refine q_ndec ?_ ?_ <;> intro _) | omega | assumption | intro _ | refine And.intro ?_ ?_ | (refine Yk ?_)))
  all_goals (unfold isB; first | (simp [*]; done) | (simp [isT, isN, *]; done) | grind)
def typW (s : List Nat) : Bool := decide (s = [98, 121, 116, 101, 115]) || decide (s = [122, 101, 114, 111]) || decide (s = [115, 107, 105, 112]) || decide (s = [119, 105, 110, 100, 111, 119]) || decide (s = [97, 116]) || decide (s = [114, 101, 115, 116]) || decide (s = [116, 97, 105, 108]) || decide (s = [110, 111, 110, 101]) || decide (s = [115, 119, 105, 116, 99, 104]) || (integ s).2.2
def isK (t : Tok) : Prop := isN t ∨ t.k = 0 ∧ typW t.s = true
instance (t : Tok) : Decidable (isK t) := inferInstanceAs (Decidable (_ ∨ _))
theorem vc211 (h77 : T 78 = q77) (h208 : T 209 = XJ) (h155 : T 156 = XL) (h154 : T 155 = XX) (h118 : T 119 = W1) (h211 : T 212 = q211) (tks : Toks tk l) (hq : atP tk l (Zg h.mem lp) lp h.next fun i dep lf => (isK (Zp l i) → ∀ h', h.next ≤ h'.next → (∀ l, l < h.next → Zg h'.mem l = Zg h.mem l) → Q (.v (.bool true)) h') ∧ (¬ isK (Zp l i) → ∀ h', h.next ≤ h'.next → (∀ l, l < h.next → Zg h'.mem l = Zg h.mem l) → Q (.v (.bool false)) h')) : VC E T 212 [.ptr lp 0] h Q R := by
  obtain ⟨i, dep, lf, hm, ⟨hi, hn⟩, hk⟩ := hq
  have hsm := tks.small
  have hmo := tks.more i hi
  refine Ya h211 ?_
  unfold ZV
  repeat' (with_reducible (first | refine Zk ?_ | refine Zl ?_ | refine ZG ?_ | refine ZF ?_ | refine Zn ?_ | refine Zd ?_ | refine Zm ?_ | refine ZH ?_ | refine Zy ?_ | refine Zi ?_ | refine Zz ?_ | refine vc118 h77 h208 h155 h154 h118 tks ?_ | refine vc77 h77 tks ?_ | refine vc155 h208 h155 ⟨?_, ?_⟩ | simp (maxSteps := 2000000) (disch := first | assumption | omega | fail) only [go_sem, -Int.reduceOfNat, *, tks.ix] | ((first | refine ZL ?_ ?_ | refine ZC ?_ ?_ | refine ZK ?_ ?_ | refine ZA ?_ ?_ | refine ZB ?_ ?_ | refine Zj ?_ ?_) <;> intro _) | (refine ⟨⟨by omega, by omega⟩, ?_⟩) | (refine ⟨by omega, ?_⟩) | (refine hk.1 ?_ _ ?_ ?_) | (refine hk.2 ?_ _ ?_ ?_) | (refine q_dec ?_ ?_ <;> intro _) | (refine q_ndec ?_ ?_ <;> intro _) | omega | assumption | intro _ | refine And.intro ?_ ?_ | (refine Yk ?_)))
  all_goals (unfold isK; first | (simp [typW, *]; done) | (simp [isN, typW, *]; done) | grind)
def Ys (s : List Nat) : Nat × Bool := if s = [98, 121, 116, 101, 115] then (1, true) else if s = [122, 101, 114, 111] then (2, true) else if s = [115, 107, 105, 112] then (3, true) else if s = [119, 105, 110, 100, 111, 119] then (7, true) else if s = [97, 116] then (8, true) else (0, false)
theorem vc212 (h212 : T 213 = q212) {w : List Nat} (hq : ((Ys w).2 = true → Q (.tup [.int .i64 (.ofNat (Ys w).1), .v (.bool true)]) h) ∧ ((Ys w).2 = false → Q (.tup [.int .i64 (.ofNat 0), .v (.bool false)]) h)) : VC E T 213 [.str w] h Q R := by
  have k : ∀ d, d = .tup [.int .i64 (.ofNat (Ys w).1), .v (.bool (Ys w).2)] → Q d h := by
    rintro d rfl
    cases hc : (Ys w).2 with
    | true => exact hq.1 hc
    | false =>
      have e : (Ys w).1 = 0 := by
        unfold Ys at hc ⊢
        repeat' split at hc
        all_goals first | (cases hc; done) | simp [*]
      rw [e]; exact hq.2 hc
  refine Ya h212 ?_
  unfold ZV
  repeat' (with_reducible (first | refine Zk ?_ | refine Zl ?_ | refine ZG ?_ | refine ZF ?_ | refine Zn ?_ | refine Zd ?_ | refine Zm ?_ | refine ZH ?_ | refine Zy ?_ | refine Zi ?_ | refine Zz ?_ | simp (maxSteps := 2000000) (disch := first | assumption | omega | fail) only [go_sem, -Int.reduceOfNat, *] | ((first | refine ZL ?_ ?_ | refine ZC ?_ ?_ | refine ZK ?_ ?_ | refine ZA ?_ ?_ | refine ZB ?_ ?_ | refine Zj ?_ ?_) <;> intro _) | (refine Yk ?_) | refine k _ ?_))
  all_goals simp [Ys, *]
end
section
attribute [local go_sem] vCd_func vCd_v Zf YN Yw same_nil same_ptr Xd Xn
def q261 : FFn := ffn ZV (fun t h => .ok (Gt 4 t) h)
 (Z0 (Z1 <| fo (X0 290 (Gt 1)) (St 3) <| fo (fmv (kI 0)) (St 4) <| Z2)
 (Z0 (Y1 <| fdo (fmv (Gt 0)) (St 5) <| fdo (u1 ZJ (Gt 5)) (St 6) <| fdo (u1 (YC 3) (Gt 6)) (St 7) <| fdr 3 [] 1 (Gt 7) (Zh (Gt 7)) (St 8) <| fdo (fmv (Gt 0)) (St 9) <| fdo (u1 ZJ (Gt 9)) (St 10) <| fdo (u1 (YC 3) (Gt 10)) (St 11) <| fdr 7 [0, 1, 2, 3] 1 (Gt 11) (Zh (Gt 11)) (St 12) <| fdo (u1 ZJ (Gt 12)) (St 13) <| fdo (u1 (YC 2) (Gt 13)) (St 14) <| fdr 10 [0, 1, 2, 3] 1 (Gt 14) (Zh (Gt 14)) (St 15) <| fdr 11 [0, 1, 2, 3, 4, 5, 6, 7, 8, 9, 10] 5 (Gt 3) (ZT 5 (Gt 3)) (St 16) <| fdo (Y6 290 1 [(.int .i64 (.ofNat 0)), (.str []), (.int .u64 (.ofNat 0)), (.str []), (.v (.slice none 0 0))] [(0, 5, (Gt 16))]) (St 17) <| fdl 13 [0, 1, 2, 3] (u2 (YY 290 5 72) (Gt 15) (Gt 17)) (St 18) <| fdo (u1 ZJ (Gt 8)) (St 19) <| fdo (u1 (YC 2) (Gt 19)) (St 20) <| fdl 16 [] (ZE 1 (Gt 20) (Gt 18)) p0 <| Y2)
 (Z0 (Z1 <| mM 0 21 <| mN 21 22 <| mF 3 22 23 <| mL 23 24 <| mN 24 25 <| mF 2 25 26 <| mL 26 27 <| fo (u1 Xl (Gt 27)) (St 28) <| fo (Zc dsub .sub 3 (.tmp 28) (.const (.int .i64 (.ofNat 1))) (Gt 28) (kI 1)) (St 29) <| mM 29 4 <| Z2)
 Ze)))
def q216 : FFn := ffn ZV (fun t h => .ok (Gt 4 t) h)
 (Z0 (Z1 <| fo (X0 117 (Gt 1)) (St 3) <| fo (fmv (kI 0)) (St 4) <| Z2)
 (Z0 (Y1 <| fdo (fmv (Gt 0)) (St 5) <| fdo (u1 ZJ (Gt 5)) (St 6) <| fdo (u1 (YC 3) (Gt 6)) (St 7) <| fdr 3 [] 1 (Gt 7) (Zh (Gt 7)) (St 8) <| fdo (fmv (Gt 0)) (St 9) <| fdo (u1 ZJ (Gt 9)) (St 10) <| fdo (u1 (YC 3) (Gt 10)) (St 11) <| fdr 7 [0, 1, 2, 3] 1 (Gt 11) (Zh (Gt 11)) (St 12) <| fdo (u1 ZJ (Gt 12)) (St 13) <| fdo (u1 (YC 3) (Gt 13)) (St 14) <| fdr 10 [0, 1, 2, 3] 1 (Gt 14) (Zh (Gt 14)) (St 15) <| fdr 11 [0, 1, 2, 3, 4, 5, 6, 7, 8, 9, 10] 8 (Gt 3) (ZT 8 (Gt 3)) (St 16) <| fdo (Y6 117 1 [(.int .i64 (.ofNat 0)), (.int .i64 (.ofNat 0)), (.v (.bool false)), (.str []), (.v (.slice none 0 0)), (.int .i64 (.ofNat 0)), (.int .i64 (.ofNat 0)), (.v (.slice none 0 0))] [(0, 8, (Gt 16))]) (St 17) <| fdl 13 [0, 1, 2, 3] (u2 (YY 117 8 104) (Gt 15) (Gt 17)) (St 18) <| fdo (u1 ZJ (Gt 8)) (St 19) <| fdo (u1 (YC 3) (Gt 19)) (St 20) <| fdl 16 [] (ZE 1 (Gt 20) (Gt 18)) p0 <| Y2)
 (Z0 (Z1 <| mM 0 21 <| mN 21 22 <| mF 3 22 23 <| mL 23 24 <| mN 24 25 <| mF 3 25 26 <| mL 26 27 <| fo (u1 Xl (Gt 27)) (St 28) <| fo (Zc dsub .sub 3 (.tmp 28) (.const (.int .i64 (.ofNat 1))) (Gt 28) (kI 1)) (St 29) <| mM 29 4 <| Z2)
 Ze)))
abbrev q213 : FFn := ffn ZV (fun t h => YR ⟨[.cN 2 8], .skip⟩ (act t) h)
 (Z0 (Z1 <| fo (Zr 117 [(.int .i64 (.ofNat 0)), (.int .i64 (.ofNat 0)), (.v (.bool false)), (.str []), (.v (.slice none 0 0)), (.int .i64 (.ofNat 0)), (.int .i64 (.ofNat 0)), (.v (.slice none 0 0))]) (St 2) <| Z2)
 (Z0 (Z1 <| mM 0 3 <| fo (ZR [(.int .i64 (.ofNat 0)), (.int .i64 (.ofNat 0)), (.v (.bool false)), (.str []), (.v (.slice none 0 0)), (.int .i64 (.ofNat 0)), (.int .i64 (.ofNat 0)), (.v (.slice none 0 0))] [(0, 1, (Gt 3)), (5, 1, (kD (.int .i64 (.negSucc 0)))), (6, 1, (kD (.int .i64 (.negSucc 0))))]) (St 4) <| fo (ZE 8 (Gt 2) (Gt 4)) p0 <| Z2)
 Ze))
abbrev q258 : FFn := ffn ZV (fun t h => .ok (Gt 6 t) h)
 (Z0 (Z1 <| fo (fmv (kI 0)) (St 6) <| Z2)
 (Z0 (Z0 (Z1 <| mM 1 8 <| fo (u1 (r_un .not) (Gt 8)) (St 9) <| Z2)
 (Z6 (Gt 9) (Z1 <| mM 0 10 <| mK 79 [(Gt 10), (kI 4)] 11 <| Z2) Z9))
 (Z0 (Z0 (Z1 <| mM 0 12 <| mN 12 13 <| mF 2 13 14 <| mL 14 15 <| fo (Zc W9 .geq 3 (.tmp 15) (.const (.int .i64 (.ofNat 32))) (Gt 15) (kI 32)) (St 16) <| Z2)
 (Z6 (Gt 16) (Z1 <| mM 0 17 <| mK 79 [(Gt 17), (kI 8)] 18 <| Z2) Z9))
 (Z0 (Z1 <| mM 0 19 <| mN 19 20 <| mF 2 20 21 <| mL 21 22 <| fo (Zc Y7 .add 3 (.tmp 22) (.const (.int .i64 (.ofNat 1))) (Gt 22) (kI 1)) (St 23) <| mN 19 24 <| mF 2 24 25 <| mS 25 (Gt 23) <| Z2)
 (Z0 (Z1 <| mM 2 26 <| fo (Xk (Gt 26) []) (St 27) <| mM 27 7 <| Z2)
 (Z0 (Z1 <| mM 0 28 <| mN 28 29 <| mF 2 29 30 <| mL 30 31 <| fo (Zc dsub .sub 3 (.tmp 31) (.const (.int .i64 (.ofNat 1))) (Gt 31) (kI 1)) (St 32) <| mN 28 33 <| mF 2 33 34 <| mS 34 (Gt 32) <| Z2)
 (Z0 (Z1 <| mM 7 35 <| mM 35 6 <| Z2)
 Ze)))))))
def q260 : FFn := ffn ZV (fun t h => .ok (Gt 2 t) h)
 (Z0 (Z1 <| fo (fmv (kI 0)) (St 2) <| Z2)
 (Z0 (Zb 0 (Z0 (Z1 <| mM 0 6 <| mK 118 [(Gt 6), (kS [33])] 7 <| mM 7 5 <| Z2)
 (Z6 (Gt 5) (Z0 (Z1 <| mM 0 8 <| mM 0 9 <| mK 258 [(Gt 9)] 10 <| mM 0 11 <| fo (fmkf (.func 261) [(Gt 11)] []) (St 12) <| mK 259 [(Gt 8), (Gt 10), (Gt 12)] 13 <| mM 13 3 <| Z2)
 (Z0 (Z1 <| mM 0 14 <| mM 3 15 <| fo (Y6 3 1 [(.int .i64 (.ofNat 0))] [(0, 1, (Gt 15))]) (St 16) <| fo (ZR [(.int .i64 (.ofNat 0)), (.str []), (.int .u64 (.ofNat 0)), (.str []), (.v (.slice none 0 0))] [(0, 1, (kI 2)), (4, 1, (Gt 16))]) (St 17) <| mK 262 [(Gt 14), (Gt 17)] 18 <| mM 18 2 <| Z2)
 Ze)) (Z0 (Z1 <| mM 0 20 <| mK 118 [(Gt 20), (kS [40])] 21 <| mM 21 19 <| Z2)
 (Z6 (Gt 19) (Z0 (Z1 <| mM 0 22 <| mM 0 23 <| mK 258 [(Gt 23)] 24 <| mM 0 25 <| fo (fmkf (.func 159) [(Gt 25)] []) (St 26) <| mK 259 [(Gt 22), (Gt 24), (Gt 26)] 27 <| mM 27 4 <| Z2)
 (Z0 (Z1 <| mM 0 28 <| mK 115 [(Gt 28), (kS [41])] 29 <| Z2)
 (Z0 (Z1 <| mM 4 30 <| mM 30 2 <| Z2)
 Ze))) (Z0 (Z1 <| mM 0 32 <| mK 119 [(Gt 32)] 33 <| mM 33 31 <| Z2)
 (Z6 (Gt 31) (Z0 (Z1 <| mM 0 34 <| mM 0 35 <| mK 116 [(Gt 35)] 36 <| fo (ZR [(.int .i64 (.ofNat 0)), (.str []), (.int .u64 (.ofNat 0)), (.str []), (.v (.slice none 0 0))] [(0, 1, (kI 1)), (3, 1, (Gt 36))]) (St 37) <| mK 262 [(Gt 34), (Gt 37)] 38 <| mM 38 2 <| Z2)
 Ze) Z9)))))))
 (Z0 (Z1 <| mM 0 39 <| mM 0 40 <| mK 117 [(Gt 40)] 41 <| fo (ZR [(.int .i64 (.ofNat 0)), (.str []), (.int .u64 (.ofNat 0)), (.str []), (.v (.slice none 0 0))] [(2, 1, (Gt 41))]) (St 42) <| mK 262 [(Gt 39), (Gt 42)] 43 <| mM 43 2 <| Z2)
 Ze)))
def q218 : FFn := ffn ZV (fun t h => .ok (Gt 4 t) h)
 (Z0 (Z1 <| fo (fmv (kI 0)) (St 4) <| Z2)
 (Z0 (Z0 (Z1 <| mM 1 8 <| mK 260 [(kS [42])] 9 <| fo (Zc dgtr .gtr 3 (.tmp 8) (.tmp 9) (Gt 8) (Gt 9)) (St 10) <| Z2)
 (Z6 (Gt 10) (Z0 (Z1 <| mM 0 11 <| mK 261 [(Gt 11)] 12 <| mM 12 4 <| Z2)
 Ze) Z9))
 (Z0 (Z1 <| mM 0 13 <| mM 1 14 <| fo (Zc Y7 .add 3 (.tmp 14) (.const (.int .i64 (.ofNat 1))) (Gt 14) (kI 1)) (St 15) <| mK 219 [(Gt 13), (Gt 15)] 16 <| mM 16 5 <| Z2)
 (Z0 (Zb 0 (Y3 (Z0 (Z0 (Z1 <| mM 0 17 <| mK 78 [(Gt 17)] 18 <| fo (u1 (Xf false 0 1) (Gt 18)) (St 19) <| fo (mQ 170 19 2) (St 20) <| mM 20 21 <| fog (Gt 21) true (fmv (Gt 0)) (St 22) <| fog (Gt 21) true (Zo 78 [(Gt 22)]) (St 23) <| fog (Gt 21) true (u1 (Xf false 1 1) (Gt 23)) (St 24) <| fog (Gt 21) true (Zo 260 [(Gt 24)]) (St 25) <| fog (Gt 21) true (fmv (Gt 1)) (St 26) <| fog (Gt 21) true (Zc Yc .eql 3 (.tmp 25) (.tmp 26) (Gt 25) (Gt 26)) (St 27) <| fo (ZO (Gt 21) (Gt 27) (kD (.v (.bool false)))) (St 28) <| Z2)
 (Z6 (Gt 28) Z9 (Yh 0)))
 (Zb 1 (Z0 (Z1 <| mM 0 29 <| mK 78 [(Gt 29)] 30 <| fo (u1 (Xf false 1 1) (Gt 30)) (St 31) <| mM 31 6 <| Z2)
 (Z0 (Z1 <| mM 0 32 <| mN 32 33 <| mF 1 33 34 <| mL 34 35 <| fo (Zc Y7 .add 3 (.tmp 35) (.const (.int .i64 (.ofNat 1))) (Gt 35) (kI 1)) (St 36) <| mN 32 37 <| mF 1 37 38 <| mS 38 (Gt 36) <| Z2)
 (Z0 (Z1 <| mM 0 39 <| mM 1 40 <| fo (Zc Y7 .add 3 (.tmp 40) (.const (.int .i64 (.ofNat 1))) (Gt 40) (kI 1)) (St 41) <| mK 219 [(Gt 39), (Gt 41)] 42 <| mM 42 7 <| Z2)
 (Z1 <| mM 0 43 <| mM 6 44 <| mM 5 45 <| mM 7 46 <| fo (Y6 3 2 [(.int .i64 (.ofNat 0)), (.int .i64 (.ofNat 0))] [(0, 1, (Gt 45)), (1, 1, (Gt 46))]) (St 47) <| fo (ZR [(.int .i64 (.ofNat 0)), (.str []), (.int .u64 (.ofNat 0)), (.str []), (.v (.slice none 0 0))] [(0, 1, (kI 3)), (1, 1, (Gt 44)), (4, 1, (Gt 47))]) (St 48) <| mK 262 [(Gt 43), (Gt 48)] 49 <| mM 49 5 <| Z2))))))))
 (Z0 (Z1 <| mM 5 50 <| mM 50 4 <| Z2)
 Ze)))))
abbrev q158 : FFn := ffn ZV (fun t h => .ok (Gt 2 t) h)
 (Z0 (Z1 <| fo (fmv (kI 0)) (St 2) <| Z2)
 (Z0 (Z1 <| mM 0 3 <| mK 219 [(Gt 3), (kI 1)] 4 <| mM 4 2 <| Z2)
 Ze))
abbrev q214 : FFn := ffn ZV (fun t h => .ok (Gt 2 t) h)
 (Z0 (Z1 <| fo (fmv (kI 0)) (St 2) <| Z2)
 (Z0 (Z1 <| mM 0 4 <| mK 115 [(Gt 4), (kS [91])] 5 <| Z2)
 (Z0 (Z1 <| mM 0 6 <| mK 159 [(Gt 6)] 7 <| mM 7 3 <| Z2)
 (Z0 (Z1 <| mM 0 8 <| mK 115 [(Gt 8), (kS [93])] 9 <| Z2)
 (Z0 (Z1 <| mM 3 10 <| mM 10 2 <| Z2)
 Ze)))))
structure Ex where
  k : Nat
  op : List Nat
  n : Nat
  name : List Nat
  kids : List Nat
  deriving Inhabited
def Ints (d : D) (l : List Nat) : Prop := Arr 1 d (l.map fun n => [.int .i64 (.ofNat n)])
def ExR (x : Ex) (c : List D) : Prop := ∃ dk, c = [.int .i64 (.ofNat x.k), .str x.op, .int .u64 (.ofNat x.n), .str x.name, dk] ∧ Ints dk x.kids ∧ dk.one = true
variable {tk : D} {l : List Tok} {lp : Nat} {h : H} {Q : D → H → Prop} {R : Pan}
def atF (o : Option AObj) (F : D → D → D → D → Prop) : Prop := ∃ a b c d, o = some (.cells 108 [a, b, c, d]) ∧ F a b c d
theorem atF_some {a b c d : D} {F : D → D → D → D → Prop} : atF (some (.cells 108 [a, b, c, d])) F ↔ F a b c d := by
  constructor
  · rintro ⟨a', b', c', d', he, hf⟩
    simp only [Option.some.injEq, AObj.cells.injEq, List.cons.injEq, and_true, true_and] at he
    obtain ⟨rfl, rfl, rfl, rfl⟩ := he
    exact hf
  · intro hf
    exact ⟨a, b, c, d, rfl, hf⟩
attribute [local go_sem] YS tokC atF_some
theorem vc261 (h261 : T 262 = q261) (tks : Toks tk l) {x : Ex} {c : List D} (hx : ExR x c) (hq : atP tk l (Zg h.mem lp) lp h.next fun i dep lf => (lf ≠ lp ∧ lf < h.next) ∧ atF (Zg h.mem lf) fun dc ds de dt => ∃ es, SlR ExR 5 de es ∧ Tp h 290 de es.length ∧ es.length ≤ 1000000 ∧ ((ZQ de lp ∧ ZQ de lf) ∧ Bnd dt h.next ∧ Sep dt de ∧ ∀ h' de', SlR ExR 5 de' (es ++ [x]) → Tp h' 290 de' (es.length + 1) → h.next ≤ h'.next → Bnd de' h'.next → (∀ l : Nat, l < h.next → l ≠ lf → ZQ de l → Zg h'.mem l = Zg h.mem l) → Zg h'.mem lf = some (.cells 108 [dc, ds, de', dt]) → ZW de' de h.next → Sep dt de' → Sep de' dt → Q (.int .i64 (.ofNat es.length)) h')) : VC E T 262 [.ptr lp 0, .agg c] h Q R := by
  obtain ⟨i, dep, lf, hm, ⟨hi, hn⟩, ⟨n1, n2⟩, dc, ds, de, dt, hf, es, hE, hT, hl, ⟨s1, s2⟩, s3, s4, hk⟩ := hq
  have s5 := sepS s4
  have hx' := hx
  obtain ⟨dk, rfl, hkid, hone⟩ := hx
  have hbd := hT.bnd
  refine Ya h261 ?_
  unfold ZV
  repeat' (with_reducible (first | refine Zk ?_ | refine Zl ?_ | refine ZG ?_ | refine ZF ?_ | refine Zn ?_ | refine Zd ?_ | refine Zm ?_ | refine ZH ?_ | refine Zy ?_ | refine Zi ?_ | refine Zz ?_ | simp (maxSteps := 2000000) (disch := first | assumption | ((try refine Yy (by assumption) ?_); (show ZQ _ _; first | assumption | ((iterate 6 (try refine Zx (by assumption) (by omega) ?_)); first | assumption | exact Zw (by assumption) (by omega) | exact Zv (by assumption) (by assumption) | exact Zf | exact Y5 (by assumption) (by assumption) (by assumption) (by omega) (by assumption)))) | omega | (simp only [Z4, Z3, List.length_cons, List.length_nil, List.length_append, List.length_take, List.length_drop]; omega) | fail) only [go_sem, -Int.reduceOfNat, *, hone] | ((first | refine ZL ?_ ?_ | refine ZC ?_ ?_ | refine ZK ?_ ?_ | refine ZA ?_ ?_ | refine ZB ?_ ?_ | refine Zj ?_ ?_) <;> intro _) | (refine vL_app (F := ExR) (xs := es) (x := x) hE (hT.mono ?_ (fun _ _ _ => ?_)) hx' ?_ ?_ ?_ hl ?_ ?_) | (refine hk _ _ (by assumption) ?_ ?_ ?_ ?_ ?_ ?_ ?_ ?_) | (refine ZP ?_ ?_ ?_) | refine And.intro ?_ ?_ | (refine ZX (by assumption) ?_) | exact ZW.refl | (refine ZW.trans (by assumption) (by first | omega | (simp only [Z4, Z3]; omega)) ?_) | exact W5 | exact X6 | exact Y9 | (refine W6 (by assumption) (by assumption) (by first | omega | (simp only [Z4, Z3]; omega)) ?_) | (refine W0 (by assumption) (by assumption) (by first | omega | (simp only [Z4, Z3]; omega)) ?_) | (refine ⟨_, YU, ?_⟩) | (refine ⟨_, by assumption, ?_⟩) | (refine Tp.mono (by assumption) ?_ (fun _ _ _ => ?_)) | assumption | (show ZQ _ _; first | assumption | ((iterate 6 (try refine Zx (by assumption) (by omega) ?_)); first | assumption | exact Zw (by assumption) (by omega) | exact Zv (by assumption) (by assumption) | exact Zf | exact Y5 (by assumption) (by assumption) (by assumption) (by omega) (by assumption))) | (show _ < _; omega) | (show _ ≤ _; omega) | (show (_ : Nat) ≠ _; omega) | (show ¬ (_ : Nat) = _; omega) | (show (_ : Nat) = _; omega) | (intro _; intros) | (exact False.elim (by assumption)) | (refine Yk ?_)))
inductive Res (α : Type) where
  | ok (a : α)
  | err (i e : Nat)
  | oof
section
variable (l : List Tok)
mutual
def Wf : Nat → Nat → Nat → List Ex → Res (Nat × Nat × List Ex)
  | 0, _, _, _ => .oof
  | f + 1, i, dep, es =>
    if isT (Zp l i) [33] then
      if isB (Zp l (i + 1)) then
        if dep < 32 then
          match Wf f (i + 1) (dep + 1) es with
          | .ok (k, j, es') => .ok (es'.length, j, es' ++ [⟨2, [], 0, [], [k]⟩])
          | .err j e => .err j e
          | .oof => .oof
        else .err (i + 1) 8
      else .err (i + 1) 4
    else if isT (Zp l i) [40] then
      if isB (Zp l (i + 1)) then
        if dep < 32 then
          match Yt f 1 (i + 1) (dep + 1) es with
          | .ok (k, j, es') => if isT (Zp l j) [41] then .ok (k, j + 1, es') else .err j 4
          | .err j e => .err j e
          | .oof => .oof
        else .err (i + 1) 8
      else .err (i + 1) 4
    else if isN (Zp l i) then .ok (es.length, i + 1, es ++ [⟨1, [], 0, (Zp l i).s, []⟩])
    else if (Zp l i).k = 1 then .ok (es.length, i + 1, es ++ [⟨0, [], (Zp l i).n, [], []⟩])
    else .err i 4
def Yt : Nat → Nat → Nat → Nat → List Ex → Res (Nat × Nat × List Ex)
  | 0, _, _, _, _ => .oof
  | f + 1, lev, i, dep, es =>
    if 8 < lev then Wf f i dep es
    else match Yt f (lev + 1) i dep es with
      | .ok (k, j, es') => loopS f lev k j dep es'
      | .err j e => .err j e
      | .oof => .oof
def loopS : Nat → Nat → Nat → Nat → Nat → List Ex → Res (Nat × Nat × List Ex)
  | 0, _, _, _, _, _ => .oof
  | f + 1, lev, left, i, dep, es =>
    if (Zp l i).k = 2 ∧ level (Zp l i).s = lev then
      match Yt f (lev + 1) (i + 1) dep es with
      | .ok (k, j, es') => loopS f lev es'.length j dep (es' ++ [⟨3, (Zp l i).s, 0, [], [left, k]⟩])
      | .err j e => .err j e
      | .oof => .oof
    else .ok (left, i, es)
end
end
abbrev FRE (h h' : H) (lp lf : Nat) (de : D) : Prop := ∀ l : Nat, l < h.next → l ≠ lp → l ≠ lf → ZQ de l → Zg h'.mem l = Zg h.mem l
def RES {α : Type} (S : Res α) (F : α → Prop) (G : Nat → Nat → Prop) : Prop :=
  match S with
  | .ok a => F a
  | .err j e => G j e
  | .oof => False
theorem ZN {α : Type} {a : α} {F : α → Prop} {G : Nat → Nat → Prop} : RES (.ok a) F G ↔ F a := Iff.rfl
theorem ZD {α : Type} {j e : Nat} {F : α → Prop} {G : Nat → Nat → Prop} : RES (.err j e) F G ↔ G j e := Iff.rfl
theorem Zu {α : Type} {F : α → Prop} {G : Nat → Nat → Prop} : RES .oof F G ↔ False := Iff.rfl
theorem RES_cases {α : Type} {S : Res α} {F : α → Prop} {G : Nat → Nat → Prop} (hn : S = .oof → False) (h1 : ∀ a, S = .ok a → F a) (h2 : ∀ j e, S = .err j e → G j e) : RES S F G := by
  cases S with
  | ok a => exact h1 a rfl
  | err j e => exact h2 j e rfl
  | oof => exact hn rfl
theorem ZP {α β γ : Type} {S : Res (α × β × γ)} {F : α × β × γ → Prop} {G : Nat → Nat → Prop} (hn : S = .oof → False) (h1 : ∀ a b c, S = .ok (a, b, c) → F (a, b, c)) (h2 : ∀ j e, S = .err j e → G j e) : RES S F G :=
  RES_cases hn (fun a ha => h1 a.1 a.2.1 a.2.2 ha) h2
abbrev FE (tk : D) (l : List Tok) (h : H) (lp lf : Nat) (dc ds de dt : D) (i dep : Nat) (es : List Ex) (Q : D → H → Prop) (a : Nat × Nat × List Ex) : Prop :=
  ∀ h' de', SlR ExR 5 de' a.2.2 → Tp h' 290 de' a.2.2.length → (i < a.2.1 ∧ a.2.1 < l.length ∧ a.2.2.length + i ≤ es.length + a.2.1 ∧ a.1 < a.2.2.length) → h.next ≤ h'.next → Bnd de' h'.next → FRE h h' lp lf de → Zg h'.mem lp = some (.cells 129 [tk, .int .i64 (.ofNat a.2.1), .int .i64 (.ofNat dep), .ptr lf 0]) → Zg h'.mem lf = some (.cells 108 [dc, ds, de', dt]) → ZW de' de h.next → Sep dt de' → Sep de' dt → Q (.int .i64 (.ofNat a.1)) h'
abbrev GE (l : List Tok) (h : H) (lp lf : Nat) (de : D) (R : Pan) (j e : Nat) : Prop := ∀ h', j < l.length → h.next ≤ h'.next → FRE h h' lp lf de → R (fault3 (Zp l j) e) h'
abbrev CE (tk : D) (l : List Tok) (h : H) (lp : Nat) (S : Nat → Nat → List Ex → Res (Nat × Nat × List Ex)) (Q : D → H → Prop) (R : Pan) : Prop :=
  atP tk l (Zg h.mem lp) lp h.next fun i dep lf => (lf ≠ lp ∧ lf < h.next) ∧ atF (Zg h.mem lf) fun dc ds de dt => ∃ es, SlR ExR 5 de es ∧ Tp h 290 de es.length ∧ es.length ≤ i ∧ (ZQ de lp ∧ ZQ de lf) ∧ Bnd dt h.next ∧ Sep dt de ∧
    RES (S i dep es) (FE tk l h lp lf dc ds de dt i dep es Q) (GE l h lp lf de R)
theorem ints_nil : Ints (.v (.slice none 0 0)) [] := ⟨by simp, .inl ⟨rfl, rfl⟩⟩
theorem ints_sl {id n : Nat} {ns : List Nat} {cs : List D} (hn : n = ns.length) (hc : cs = ns.map fun n => .int .i64 (.ofNat n)) : Ints (.sl id n cs) ns := ⟨by simp, .inr ⟨id, by subst hn; subst hc; simp; induction ns <;> simp_all⟩⟩
theorem exR_mk {k n : Nat} {op name : List Nat} {dk : D} {kids : List Nat} (h1 : Ints dk kids) (h2 : dk.one = true) : ExR ⟨k, op, n, name, kids⟩ [.int .i64 (.ofNat k), .str op, .int .u64 (.ofNat n), .str name, dk] := ⟨dk, rfl, h1, h2⟩
theorem ints_1 {id k : Nat} : Ints (.sl id 1 [.int .i64 (.ofNat k)]) [k] := ints_sl rfl rfl
theorem ints_2 {id k m : Nat} : Ints (.sl id 2 [.int .i64 (.ofNat k), .int .i64 (.ofNat m)]) [k, m] := ints_sl rfl rfl
end
section
attribute [local go_sem] vCd_func vCd_v Zf YN Yw same_ptr Xd Xn YS tokC atF_some ZN ZD Zu
variable {tk : D} {l : List Tok} {lp : Nat} {h : H} {Q : D → H → Prop} {R : Pan}
theorem vc260 (h77 : T 78 = q77) (h78 : T 79 = q78) (h73 : T 74 = q73) (h114 : T 115 = q114) (h117 : T 118 = q117) (h208 : T 209 = XJ) (h155 : T 156 = XL) (h154 : T 155 = XX) (h118 : T 119 = W1) (h115 : T 116 = q115) (h116 : T 117 = q116) (h257 : T 258 = q257) (h258 : T 259 = q258) (h261 : T 262 = q261) (h260 : T 261 = q260) (tks : Toks tk l) {f : Nat}
    (ih1 : ∀ {h : H} {Q : D → H → Prop} {R : Pan}, CE tk l h lp (fun i dep es => Wf l f i dep es) Q R → VC E T 261 [.ptr lp 0] h Q R)
    (ih2 : ∀ {h : H} {Q : D → H → Prop} {R : Pan}, CE tk l h lp (fun i dep es => Yt l f 1 i dep es) Q R → VC E T 159 [.ptr lp 0] h Q R)
    (hq : CE tk l h lp (fun i dep es => Wf l (f + 1) i dep es) Q R) : VC E T 261 [.ptr lp 0] h Q R := by
  obtain ⟨i, dep, lf, hm, ⟨hi, hn⟩, ⟨n1, n2⟩, dc, ds, de, dt, hf, es, hE, hT, hl, ⟨s1, s2⟩, s3, s4, hk⟩ := hq
  have s5 := sepS s4
  have hbd := hT.bnd
  have hsm := tks.small
  refine Ya h260 ?_
  unfold ZV
  repeat' (with_reducible (first | refine Zk ?_ | refine Zl ?_ | refine ZG ?_ | refine ZF ?_ | refine Zn ?_ | refine Zd ?_ | refine Zm ?_ | refine ZH ?_ | refine Zy ?_ | refine Zi ?_ | refine Zz ?_ | refine vc117 h77 h73 h117 tks ?_ | refine vc257 h77 h73 h208 h155 h154 h118 h257 tks ?_ | refine vc78 h77 h78 tks ?_ | refine vc114 h77 h78 h73 h114 tks ?_ | refine vc118 h77 h208 h155 h154 h118 tks ?_ | refine vc115 h77 h78 h208 h155 h154 h118 h115 tks ?_ | refine vc116 h77 h78 h116 tks ?_ | refine vc261 h261 tks (exR_mk (by first | exact ints_nil | exact ints_1 | exact ints_2) (by first | exact one_sl | exact one_vnil)) ?_ | refine Ya h258 ?_ | refine ih1 ?_ | refine ih2 ?_ | simp (maxSteps := 2000000) (disch := first | assumption | ((try refine Yy (by assumption) ?_); (show ZQ _ _; first | assumption | ((iterate 6 (try refine Zx (by assumption) (by omega) ?_)); first | assumption | exact Zw (by assumption) (by omega) | exact Zv (by assumption) (by assumption) | exact Zf | exact Y5 (by assumption) (by assumption) (by assumption) (by omega) (by assumption)))) | omega | (simp only [Z4, Z3, List.length_cons, List.length_nil, List.length_append, List.length_take, List.length_drop]; omega) | fail) only [go_sem, -Int.reduceOfNat, *, CE, FE, GE, ZV] | ((first | refine ZL ?_ ?_ | refine ZC ?_ ?_ | refine ZK ?_ ?_ | refine ZA ?_ ?_ | refine ZB ?_ ?_ | refine Zj ?_ ?_) <;> intro _) | refine vr_cd ?_ | (show Q _ _; simp only [Wf, ZN, if_true, if_false, and_true, true_and, and_false, false_and, *] at hk; refine hk _ _ (by assumption) ?_ ?_ ?_ ?_ ?_ ?_ ?_ ?_ ?_ ?_) | (show R _ _; simp only [Wf, ZD, if_true, if_false, and_true, true_and, and_false, false_and, *] at hk; refine hk _ ?_ ?_ ?_) | (show False; simp only [Wf, Zu, if_true, if_false, and_true, true_and, and_false, false_and, *] at hk) | (refine ZP ?_ ?_ ?_) | refine And.intro ?_ ?_ | (refine ZX (by assumption) ?_) | exact ZW.refl | (refine ZW.trans (by assumption) (by first | omega | (simp only [Z4, Z3]; omega)) ?_) | exact W5 | exact X6 | exact Y9 | (refine W6 (by assumption) (by assumption) (by first | omega | (simp only [Z4, Z3]; omega)) ?_) | (refine W0 (by assumption) (by assumption) (by first | omega | (simp only [Z4, Z3]; omega)) ?_) | (refine ⟨_, YU, ?_⟩) | (refine ⟨_, by assumption, ?_⟩) | (refine Tp.mono (by assumption) ?_ (fun _ _ _ => ?_)) | assumption | (show ZQ _ _; first | assumption | ((iterate 6 (try refine Zx (by assumption) (by omega) ?_)); first | assumption | exact Zw (by assumption) (by omega) | exact Zv (by assumption) (by assumption) | exact Zf | exact Y5 (by assumption) (by assumption) (by assumption) (by omega) (by assumption))) | (show _ < _; omega) | (show _ ≤ _; omega) | (show (_ : Nat) ≠ _; omega) | (show ¬ (_ : Nat) = _; omega) | (show (_ : Nat) = _; omega) | (intro _; intros) | (exact False.elim (by assumption)) | (refine Yk ?_)))
  all_goals trace_state
abbrev IL (tk : D) (l : List Tok) (h : H) (lp lf : Nat) (dc ds de dt : D) (i dep : Nat) (es : List Ex) (lev f : Nat) (Q : D → H → Prop) (R : Pan) (n : Nat) (t1 : Tr D) (h1 : H) : Prop :=
  n ≤ f ∧ Gt 0 t1 = .ptr lp 0 ∧ Gt 1 t1 = .int .i64 (.ofNat lev) ∧ ∃ k, Gt 5 t1 = .int .i64 (.ofNat k) ∧ ∃ j, Zg h1.mem lp = some (.cells 129 [tk, .int .i64 (.ofNat j), .int .i64 (.ofNat dep), .ptr lf 0]) ∧ ∃ de1, Zg h1.mem lf = some (.cells 108 [dc, ds, de1, dt]) ∧ ∃ es1, SlR ExR 5 de1 es1 ∧ Tp h1 290 de1 es1.length ∧ Bnd de1 h1.next ∧ ZW de1 de h.next ∧ Sep dt de1 ∧ Sep de1 dt ∧ i < j ∧ j < l.length ∧ es1.length + i ≤ es.length + j ∧ k < es1.length ∧ h.next ≤ h1.next ∧ FRE h h1 lp lf de ∧ RES (loopS l n lev k j dep es1) (FE tk l h lp lf dc ds de dt i dep es Q) (GE l h lp lf de R)
theorem vc218 (h77 : T 78 = q77) (h78 : T 79 = q78) (h73 : T 74 = q73) (h114 : T 115 = q114) (h117 : T 118 = q117) (h208 : T 209 = XJ) (h155 : T 156 = XL) (h154 : T 155 = XX) (h118 : T 119 = W1) (h115 : T 116 = q115) (h116 : T 117 = q116) (h257 : T 258 = q257) (h258 : T 259 = q258) (h261 : T 262 = q261) (h259 : T 260 = q259) (h218 : T 219 = q218) (tks : Toks tk l) {f : Nat}
    (ih1 : ∀ {h : H} {Q : D → H → Prop} {R : Pan}, CE tk l h lp (fun i dep es => Wf l f i dep es) Q R → VC E T 261 [.ptr lp 0] h Q R)
    (ih2 : ∀ {g : Nat}, g ≤ f → ∀ {h : H} {lev : Nat} {Q : D → H → Prop} {R : Pan}, lev ≤ 9 → CE tk l h lp (fun i dep es => Yt l g lev i dep es) Q R → VC E T 219 [.ptr lp 0, .int .i64 (.ofNat lev)] h Q R)
    {lev : Nat} (hl9 : lev ≤ 9) (hq : CE tk l h lp (fun i dep es => Yt l (f + 1) lev i dep es) Q R) : VC E T 219 [.ptr lp 0, .int .i64 (.ofNat lev)] h Q R := by
  obtain ⟨i, dep, lf, hm, ⟨hi, hn⟩, ⟨n1, n2⟩, dc, ds, de, dt, hf, es, hE, hT, hl, ⟨s1, s2⟩, s3, s4, hk⟩ := hq
  have s5 := sepS s4
  have hbd := hT.bnd
  have hsm := tks.small
  have h42 : level [42] = 8 := rfl
  refine Ya h218 ?_
  unfold ZV
  repeat' (with_reducible (first | refine Zk ?_ | refine Zl ?_ | refine ZG ?_ | refine ZF ?_ | refine Zn ?_ | refine Zd ?_ | refine Zm ?_ | refine ZH ?_ | refine Zy ?_ | refine Zi ?_ | refine Zz ?_ | refine vc259 h259 ?_ | refine ih1 ?_ | refine ih2 (Nat.le_refl f) (by omega) ?_ | simp (maxSteps := 2000000) (disch := first | assumption | ((try refine Yy (by assumption) ?_); (show ZQ _ _; first | assumption | ((iterate 6 (try refine Zx (by assumption) (by omega) ?_)); first | assumption | exact Zw (by assumption) (by omega) | exact Zv (by assumption) (by assumption) | exact Zf | exact Y5 (by assumption) (by assumption) (by assumption) (by omega) (by assumption)))) | omega | (simp only [Z4, Z3, List.length_cons, List.length_nil, List.length_append, List.length_take, List.length_drop]; omega) | fail) only [go_sem, -Int.reduceOfNat, *, CE, FE, GE, IL, ZV, h42, Option.some.injEq, AObj.cells.injEq, D.int.injEq, Int.ofNat.injEq, exists_eq_left'] | ((first | refine ZL ?_ ?_ | refine ZC ?_ ?_ | refine ZK ?_ ?_ | refine ZA ?_ ?_ | refine ZB ?_ ?_ | refine Zj ?_ ?_) <;> intro _) | (intro _ hd; subst hd) | (refine W4 (IL tk l h lp lf dc ds de dt i dep es lev f Q R) (n := f) ?_ ?_) | (show Q _ _; simp only [Yt, ZN, if_true, if_false, and_true, true_and, and_false, false_and, *] at hk; refine hk _ _ (by assumption) ?_ ?_ ?_ ?_ ?_ ?_ ?_ ?_ ?_ ?_) | (show R _ _; simp only [Yt, ZD, if_true, if_false, and_true, true_and, and_false, false_and, *] at hk; refine hk _ ?_ ?_ ?_) | (show False; simp only [Yt, Zu, if_true, if_false, and_true, true_and, and_false, false_and, *] at hk) | (refine ZP ?_ ?_ ?_) | refine And.intro ?_ ?_ | (refine ZX (by assumption) ?_) | exact ZW.refl | (refine ZW.trans (by assumption) (by first | omega | (simp only [Z4, Z3]; omega)) ?_) | exact W5 | exact X6 | exact Y9 | (refine W6 (by assumption) (by assumption) (by first | omega | (simp only [Z4, Z3]; omega)) ?_) | (refine W0 (by assumption) (by assumption) (by first | omega | (simp only [Z4, Z3]; omega)) ?_) | (refine ⟨_, YU, ?_⟩) | (refine ⟨_, by assumption, ?_⟩) | (refine Tp.mono (by assumption) ?_ (fun _ _ _ => ?_)) | assumption | (show ZQ _ _; first | assumption | ((iterate 6 (try refine Zx (by assumption) (by omega) ?_)); first | assumption | exact Zw (by assumption) (by omega) | exact Zv (by assumption) (by assumption) | exact Zf | exact Y5 (by assumption) (by assumption) (by assumption) (by omega) (by assumption))) | (show _ < _; omega) | (show _ ≤ _; omega) | (show (_ : Nat) ≠ _; omega) | (show ¬ (_ : Nat) = _; omega) | (show (_ : Nat) = _; omega) | (intro _; intros) | (exact False.elim (by assumption)) | fail))
  all_goals
    rintro (_ | n) t1 h1 ⟨gn, g0, g1, k1, g5, j1, gm, de1, gf, es1, gE, gT, gs, gs2, gs3, gs4, gi1, gi2, gi3, gi4, gnx, gfr, hk⟩
    · simp only [loopS, Zu] at hk
    have hmj := tks.more j1 gi2
    repeat' (with_reducible (first | refine Zk ?_ | refine Zl ?_ | refine ZG ?_ | refine ZF ?_ | refine Zn ?_ | refine Zd ?_ | refine Zm ?_ | refine ZH ?_ | refine Zy ?_ | refine Zi ?_ | refine Zz ?_ | refine vc77 h77 tks ?_ | refine vc259 h259 ?_ | refine ih2 (g := n) (by omega) (by omega) ?_ | refine vc261 h261 tks (exR_mk (by first | exact ints_nil | exact ints_1 | exact ints_2) (by first | exact one_sl | exact one_vnil)) ?_ | simp (maxSteps := 2000000) (disch := first | assumption | ((try refine Yy (by assumption) ?_); (show ZQ _ _; first | assumption | ((iterate 6 (try refine Zx (by assumption) (by omega) ?_)); first | assumption | exact Zw (by assumption) (by omega) | exact Zv (by assumption) (by assumption) | exact Zf | exact Y5 (by assumption) (by assumption) (by assumption) (by omega) (by assumption)))) | omega | (simp only [Z4, Z3, List.length_cons, List.length_nil, List.length_append, List.length_take, List.length_drop]; omega) | fail) only [go_sem, -Int.reduceOfNat, *, CE, FE, GE, IL, ZV, h42, Option.some.injEq, AObj.cells.injEq, D.int.injEq, Int.ofNat.injEq, exists_eq_left'] | ((first | refine ZL ?_ ?_ | refine ZC ?_ ?_ | refine ZK ?_ ?_ | refine ZA ?_ ?_ | refine ZB ?_ ?_ | refine Zj ?_ ?_) <;> intro _) | (intro _ hd; subst hd) | (refine ⟨n, Nat.lt_succ_self n, ?_⟩) | (show Q _ _; simp only [loopS, ZN, if_true, if_false, and_true, true_and, and_false, false_and, *] at hk; refine hk _ _ (by assumption) ?_ ?_ ?_ ?_ ?_ ?_ ?_ ?_ ?_ ?_) | (show R _ _; simp only [loopS, ZD, if_true, if_false, and_true, true_and, and_false, false_and, *] at hk; refine hk _ ?_ ?_ ?_) | (show False; simp only [loopS, Zu, if_true, if_false, and_true, true_and, and_false, false_and, *] at hk) | (refine ZP ?_ ?_ ?_) | refine And.intro ?_ ?_ | (refine ZX (by assumption) ?_) | exact ZW.refl | (refine ZW.trans (by assumption) (by first | omega | (simp only [Z4, Z3]; omega)) ?_) | exact W5 | exact X6 | exact Y9 | (refine W6 (by assumption) (by assumption) (by first | omega | (simp only [Z4, Z3]; omega)) ?_) | (refine W0 (by assumption) (by assumption) (by first | omega | (simp only [Z4, Z3]; omega)) ?_) | (refine ⟨_, YU, ?_⟩) | (refine ⟨_, by assumption, ?_⟩) | (refine Tp.mono (by assumption) ?_ (fun _ _ _ => ?_)) | assumption | (show ZQ _ _; first | assumption | ((iterate 6 (try refine Zx (by assumption) (by omega) ?_)); first | assumption | exact Zw (by assumption) (by omega) | exact Zv (by assumption) (by assumption) | exact Zf | exact Y5 (by assumption) (by assumption) (by assumption) (by omega) (by assumption))) | (show _ < _; omega) | (show _ ≤ _; omega) | (show (_ : Nat) ≠ _; omega) | (show ¬ (_ : Nat) = _; omega) | (show (_ : Nat) = _; omega) | (intro _; intros) | (exact False.elim (by assumption)) | fail))
  all_goals trace_state
end
section
attribute [local go_sem] vCd_func vCd_v Zf YN Yw same_nil same_ptr Xd Xn YS tokC atF_some ZN ZD Zu
variable {tk : D} {l : List Tok} {lp : Nat} {h : H} {Q : D → H → Prop} {R : Pan}
theorem CE.no {S : Nat → Nat → List Ex → Res (Nat × Nat × List Ex)} (hs : ∀ i dep es, S i dep es = .oof) (hq : CE tk l h lp S Q R) : False := by
  obtain ⟨i, dep, lf, hm, ⟨hi, hn⟩, ⟨n1, n2⟩, dc, ds, de, dt, hf, es, hE, hT, hl, ⟨s1, s2⟩, s3, s4, hk⟩ := hq
  rw [hs] at hk
  exact hk
theorem vc158 (h158 : T 159 = q158) (tks : Toks tk l) {f : Nat}
    (ih : ∀ {h : H} {Q : D → H → Prop} {R : Pan}, CE tk l h lp (fun i dep es => Yt l f 1 i dep es) Q R → VC E T 219 [.ptr lp 0, .int .i64 (.ofNat 1)] h Q R)
    (hq : CE tk l h lp (fun i dep es => Yt l f 1 i dep es) Q R) : VC E T 159 [.ptr lp 0] h Q R := by
  obtain ⟨i, dep, lf, hm, ⟨hi, hn⟩, ⟨n1, n2⟩, dc, ds, de, dt, hf, es, hE, hT, hl, ⟨s1, s2⟩, s3, s4, hk⟩ := hq
  have s5 := sepS s4
  have hbd := hT.bnd
  have hsm := tks.small
  refine Ya h158 ?_
  unfold ZV
  repeat' (with_reducible (first | refine Zk ?_ | refine Zl ?_ | refine ZG ?_ | refine ZF ?_ | refine Zn ?_ | refine Zd ?_ | refine Zm ?_ | refine ZH ?_ | refine Zy ?_ | refine Zi ?_ | refine Zz ?_ | refine ih ?_ | simp (maxSteps := 2000000) (disch := first | assumption | omega | fail) only [go_sem, -Int.reduceOfNat, *, CE, FE, GE, ZV] | ((first | refine ZL ?_ ?_ | refine ZC ?_ ?_ | refine ZK ?_ ?_ | refine ZA ?_ ?_ | refine ZB ?_ ?_ | refine Zj ?_ ?_) <;> intro _) | (show Q _ _; simp only [Yt, ZN, if_true, if_false, eq_self, Nat.reduceEqDiff, reduceCtorEq, true_or, or_true, or_self, false_or, or_false, not_true_eq_false, not_false_eq_true, and_true, true_and, and_false, false_and, *] at hk; refine hk _ _ (by assumption) ?_ ?_ ?_ ?_ ?_ ?_ ?_ ?_ ?_ ?_) | (show R _ _; simp only [Yt, ZD, if_true, if_false, eq_self, Nat.reduceEqDiff, reduceCtorEq, true_or, or_true, or_self, false_or, or_false, not_true_eq_false, not_false_eq_true, and_true, true_and, and_false, false_and, *] at hk; refine hk _ ?_ ?_ ?_) | (show False; simp only [Yt, Zu, if_true, if_false, eq_self, Nat.reduceEqDiff, reduceCtorEq, true_or, or_true, or_self, false_or, or_false, not_true_eq_false, not_false_eq_true, and_true, true_and, and_false, false_and, *] at hk) | (refine ZP ?_ ?_ ?_) | refine And.intro ?_ ?_ | (refine ZX (by assumption) ?_) | exact ZW.refl | (refine ZW.trans (by assumption) (by first | omega | (simp only [Z4, Z3]; omega)) ?_) | exact W5 | exact X6 | exact Y9 | (refine W6 (by assumption) (by assumption) (by first | omega | (simp only [Z4, Z3]; omega)) ?_) | (refine W0 (by assumption) (by assumption) (by first | omega | (simp only [Z4, Z3]; omega)) ?_) | (refine ⟨_, YU, ?_⟩) | (refine ⟨_, by assumption, ?_⟩) | (refine Tp.mono (by assumption) ?_ (fun _ _ _ => ?_)) | assumption | (show _ < _; omega) | (show _ ≤ _; omega) | (show (_ : Nat) ≠ _; omega) | (show ¬ (_ : Nat) = _; omega) | (show (_ : Nat) = _; omega) | (intro _; intros) | (exact False.elim (by assumption)) | (refine Yk ?_)))
theorem vcE (h77 : T 78 = q77) (h78 : T 79 = q78) (h73 : T 74 = q73) (h114 : T 115 = q114) (h117 : T 118 = q117) (h208 : T 209 = XJ) (h155 : T 156 = XL) (h154 : T 155 = XX) (h118 : T 119 = W1) (h115 : T 116 = q115) (h116 : T 117 = q116) (h257 : T 258 = q257) (h258 : T 259 = q258) (h261 : T 262 = q261) (h259 : T 260 = q259) (h218 : T 219 = q218) (h158 : T 159 = q158) (h260 : T 261 = q260) (tks : Toks tk l) : ∀ f : Nat,
    (∀ {g : Nat}, g ≤ f → ∀ {h : H} {Q : D → H → Prop} {R : Pan}, CE tk l h lp (fun i dep es => Wf l g i dep es) Q R → VC E T 261 [.ptr lp 0] h Q R) ∧
    (∀ {g : Nat}, g ≤ f → ∀ {h : H} {lev : Nat} {Q : D → H → Prop} {R : Pan}, lev ≤ 9 → CE tk l h lp (fun i dep es => Yt l g lev i dep es) Q R → VC E T 219 [.ptr lp 0, .int .i64 (.ofNat lev)] h Q R) := by
  intro f
  induction f with
  | zero =>
    refine ⟨fun hg _ _ _ hq => ?_, fun hg _ _ _ _ _ hq => ?_⟩
    · obtain rfl : _ = 0 := Nat.le_zero.1 hg
      exact (CE.no (fun _ _ _ => by simp only [Wf]) hq).elim
    · obtain rfl : _ = 0 := Nat.le_zero.1 hg
      exact (CE.no (fun _ _ _ => by simp only [Yt]) hq).elim
  | succ f ih =>
    refine ⟨fun {g} hg {h Q R} hq => ?_, fun {g} hg {h lev Q R} h9 hq => ?_⟩
    · by_cases hf : g ≤ f
      · exact ih.1 hf hq
      · obtain rfl : g = f + 1 := by omega
        exact vc260 h77 h78 h73 h114 h117 h208 h155 h154 h118 h115 h116 h257 h258 h261 h260 tks (ih.1 (Nat.le_refl f)) (fun hq => vc158 h158 tks (fun hq => ih.2 (Nat.le_refl f) (by omega) hq) hq) hq
    · by_cases hf : g ≤ f
      · exact ih.2 hf h9 hq
      · obtain rfl : g = f + 1 := by omega
        exact vc218 h77 h78 h73 h114 h117 h208 h155 h154 h118 h115 h116 h257 h258 h261 h259 h218 tks (ih.1 (Nat.le_refl f)) (fun hg _ _ _ _ h9 hq => ih.2 hg h9 hq) h9 hq
end
end Run
end Go.Abs
