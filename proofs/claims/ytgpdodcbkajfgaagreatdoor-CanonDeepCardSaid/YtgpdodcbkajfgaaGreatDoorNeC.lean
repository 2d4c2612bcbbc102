/- Types of a description as data; the parser of types: walks of the program. -/
import Derived.Test.YtgpdodcbkajfgaaGreatDoorNeA
set_option linter.unusedVariables false
set_option linter.unusedSimpArgs false
namespace Go.Abs
namespace Run
variable {E : Env} {T : Nat → FFn}
set_option maxHeartbeats 4000000
set_option maxRecDepth 100000
attribute [local go_sem] vr_mv vr_len vr_fa vr_nil vr_ext vr_not vr_ixs vr_sl vr_ld1 vr_ldN vr_st vr_alloc vr_box vr_mkmap vr_int vr_pick vr_build Wd vr_look vr_mk vr_app vr_sbin vr_fog vr_end vr_b2s vr_lens vr_slstr vr_cint vr_fld vr_iface vr_panic vr_mkf vr_idxs vr_idxa vd_mv vd_fa vd_nil vd_ext vd_ixs vd_alloc vd_build We vd_ld1 vd_ldN vd_st vd_mset vd_app vd_int vd_end vd_cint vd_fld vd_mkf vd_fdg vd_not vd_pick vd_len vd_lens vd_box vd_sbin vd_idxs vO_ok vO_pan vD_ok vRd_ok vL_ok vB_t vB_f vG_t vG_f vDg_t vDg_f lseq_n lseq_r lseq_e kblk_n kblk_r kblk_e lfn_n lfn_r lloop_n lloop_e lloop_r sC_ok lroll_n lroll_e lroll_r oFa_ptr oFa_ep oNil_ptr oNil_ep oLen_sl oLen_row oLen_nil oExt_0 oExt_1 oExt_2 okq_some oNot_bool oSl_nil rc_ptr rc_ep oRd_c oEp oLd1_some oLdN_some oStw_eq oStw_c oInt_int oPick_b XO Xj ffill_nil oFill_some ffill patch oFind_some oFind_none oOne_some oTwo_some cfin_one cfin_two wanted_t wanted_f wanted_u evs_nil evs_cons fargs_nil fargs_cons oLens_str oB2s_nil oApp_unf oApp_unil oSame_some Xv loudOk_rdS mem_cons loudT readT sames_one Option.map_some Option.map_none oCint_n oHd_cons oAg_some oFld_agg oPan_i oEq_str oNe_strs oIdxa_f oPart_some oAdd_str cells_int cells_str cells_agg cells_sl cells_row cells_map cells_ptr cells_bool cells_nil one_nil one_cons one_int one_str one_sl one_row one_map one_ptr one_bool one_vnil Yc dneq dlss dleq dgtr W9 iEq_n iLt_n iLe XY blt_dec ble_dec mem_nil readOk_nil readOk_rd loudOk_nil XP Xt add_small sub_small beqL_dec List.drop_succ_cons List.drop_zero List.drop_nil List.take_succ_cons List.take_zero List.take_nil List.length_cons List.length_nil List.length_append List.cons_append List.nil_append Nat.reduceAdd Nat.reduceEqDiff Nat.reduceLeDiff Nat.reduceLT List.cons.injEq reduceCtorEq eq_self not_true_eq_false not_false_eq_true and_false false_and true_or or_true decide_true decide_false Bool.and_self Bool.and_true Bool.true_and Bool.true_or Bool.or_true Bool.false_or Bool.or_false Bool.false_and Bool.and_false Bool.not_true Bool.not_false cond_true cond_false true_and and_true Gt_St p0_eq kD_eq reduceIte Nat.add_zero Nat.zero_add Nat.add_sub_cancel Nat.reduceMul Nat.reduceSub Nat.reduceBEq List.map_cons List.map_nil Z4 Z3 XR YA X7 Yi vCd_func vCd_v Zf YN Yw same_nil same_ptr Xd Xn YS tokC atF_some ZN ZD Zu
section
def q209 : FFn := ffn ZV (fun t h => .ok (Gt 4 t) h)
 (Z0 (Z1 <| fo (X0 117 (Gt 1)) (St 3) <| fo (fmv (kI 0)) (St 4) <| Z2)
 (Z0 (Z1 <| mM 0 7 <| fo (ZT 8 (Gt 3)) (St 8) <| mK 217 [(Gt 7), (Gt 8)] 9 <| mM 9 5 <| Z2)
 (Z0 (Z0 (Z1 <| mM 0 10 <| mK 74 [(Gt 10), (kS [91])] 11 <| fo (u1 (r_un .not) (Gt 11)) (St 12) <| Z2)
 (Z6 (Gt 12) (Z0 (Z1 <| mM 5 13 <| mM 13 4 <| Z2)
 Ze) Z9))
 (Z0 (Z1 <| mK 214 [(kI 5)] 14 <| fo (Zr 117 [(.int .i64 (.ofNat 0)), (.int .i64 (.ofNat 0)), (.v (.bool false)), (.str []), (.v (.slice none 0 0)), (.int .i64 (.ofNat 0)), (.int .i64 (.ofNat 0)), (.v (.slice none 0 0))]) (St 6) <| fo (ZE 8 (Gt 6) (Gt 14)) p0 <| Z2)
 (Z0 (Z1 <| mM 0 15 <| mK 215 [(Gt 15)] 16 <| mM 5 17 <| mF 5 6 18 <| mS 18 (Gt 16) <| mF 6 6 19 <| mS 19 (Gt 17) <| Z2)
 (Z0 (Z1 <| mM 0 20 <| fo (ZT 8 (Gt 6)) (St 21) <| mK 217 [(Gt 20), (Gt 21)] 22 <| mM 22 4 <| Z2)
 Ze))))))
def q210 : FFn := ffn ZV (fun t h => YR ⟨[.cN 2 8], .skip⟩ (act t) h)
 (Z0 (Z1 <| fo (Zr 117 [(.int .i64 (.ofNat 0)), (.int .i64 (.ofNat 0)), (.v (.bool false)), (.str []), (.v (.slice none 0 0)), (.int .i64 (.ofNat 0)), (.int .i64 (.ofNat 0)), (.v (.slice none 0 0))]) (St 2) <| Z2)
 (Z0 (Z1 <| mK 214 [(kI 10)] 4 <| fo (Zr 117 [(.int .i64 (.ofNat 0)), (.int .i64 (.ofNat 0)), (.v (.bool false)), (.str []), (.v (.slice none 0 0)), (.int .i64 (.ofNat 0)), (.int .i64 (.ofNat 0)), (.v (.slice none 0 0))]) (St 3) <| fo (ZE 8 (Gt 3) (Gt 4)) p0 <| Z2)
 (Z0 (Z1 <| mM 0 5 <| mK 116 [(Gt 5)] 6 <| mF 3 3 7 <| mS 7 (Gt 6) <| Z2)
 (Z0 (Z0 (Z1 <| mM 0 8 <| mK 118 [(Gt 8), (kS [40])] 9 <| fo (u1 (r_un .not) (Gt 9)) (St 10) <| Z2)
 (Z6 (Gt 10) (Z0 (Z1 <| fo (ZT 8 (Gt 3)) (St 11) <| fo (ZE 8 (Gt 2) (Gt 11)) p0 <| Z2)
 Ze) Z9))
 (Z0 (Y1 <| fdo (u1 (YC 4) (Gt 3)) (St 12) <| fdr 1 [] 1 (Gt 12) (Zh (Gt 12)) (St 13) <| fdo (fmv (Gt 0)) (St 14) <| fdp 3 [0, 1] (Zo 159 [(Gt 14)]) (St 15) <| fdo (Y6 3 1 [(.int .i64 (.ofNat 0))] [(0, 1, (Gt 15))]) (St 16) <| fdl 5 [] (u2 (YY 3 1 8) (Gt 13) (Gt 16)) (St 17) <| fdo (u1 (YC 4) (Gt 3)) (St 18) <| fdl 7 [] (ZE 1 (Gt 18) (Gt 17)) p0 <| Y2)
 (Z0 (Zb 0 (Y3 (Z0 (Z0 (Z1 <| mM 0 19 <| mK 118 [(Gt 19), (kS [44])] 20 <| Z2)
 (Z6 (Gt 20) Z9 (Yh 0)))
 (Zb 1 (Z0 (Z0 (Z1 <| mM 0 21 <| mK 258 [(Gt 21)] 22 <| Z2)
 (Z6 (Gt 22) (Z1 <| mM 0 23 <| mF 4 3 24 <| mL 24 25 <| fo (u1 Xl (Gt 25)) (St 26) <| mK 75 [(Gt 23), (Gt 26), (kI 64)] 27 <| Z2) Z9))
 (Y1 <| fdo (u1 (YC 4) (Gt 3)) (St 28) <| fdr 1 [] 1 (Gt 28) (Zh (Gt 28)) (St 29) <| fdo (fmv (Gt 0)) (St 30) <| fdp 3 [0, 1] (Zo 159 [(Gt 30)]) (St 31) <| fdo (Y6 3 1 [(.int .i64 (.ofNat 0))] [(0, 1, (Gt 31))]) (St 32) <| fdl 5 [] (u2 (YY 3 1 8) (Gt 29) (Gt 32)) (St 33) <| fdo (u1 (YC 4) (Gt 3)) (St 34) <| fdl 7 [] (ZE 1 (Gt 34) (Gt 33)) p0 <| Y2))))))
 (Z0 (Z1 <| mM 0 35 <| mK 115 [(Gt 35), (kS [41])] 36 <| Z2)
 (Z0 (Z1 <| fo (ZT 8 (Gt 3)) (St 37) <| fo (ZE 8 (Gt 2) (Gt 37)) p0 <| Z2)
 Ze))))))))
def q217 : FFn := ffn ZV (fun t h => .ok (Gt 2 t) h)
 (Z0 (Z1 <| fo (fmv (kI 0)) (St 2) <| Z2)
 (Z0 (Z1 <| mK 214 [(kI 9)] 5 <| fo (Zr 117 [(.int .i64 (.ofNat 0)), (.int .i64 (.ofNat 0)), (.v (.bool false)), (.str []), (.v (.slice none 0 0)), (.int .i64 (.ofNat 0)), (.int .i64 (.ofNat 0)), (.v (.slice none 0 0))]) (St 3) <| fo (ZE 8 (Gt 3) (Gt 5)) p0 <| Z2)
 (Z0 (Z1 <| mM 0 6 <| mK 115 [(Gt 6), (kS [40])] 7 <| Z2)
 (Z0 (Z1 <| mM 0 8 <| mK 159 [(Gt 8)] 9 <| mF 5 3 10 <| mS 10 (Gt 9) <| Z2)
 (Z0 (Z1 <| mM 0 11 <| mK 115 [(Gt 11), (kS [41])] 12 <| Z2)
 (Z0 (Z1 <| mM 0 13 <| mK 115 [(Gt 13), (kS [123])] 14 <| Z2)
 (Z0 (Zb 0 (Y3 (Z0 (Z0 (Z1 <| mM 0 15 <| mK 74 [(Gt 15), (kS [99, 97, 115, 101])] 16 <| Z2)
 (Z6 (Gt 16) Z9 (Yh 0)))
 (Zb 1 (Z0 (Z1 <| mM 0 17 <| mF 7 3 18 <| mL 18 19 <| fo (u1 Xl (Gt 19)) (St 20) <| mK 75 [(Gt 17), (Gt 20), (kI 64)] 21 <| Z2)
 (Z0 (Z1 <| mM 0 22 <| mK 115 [(Gt 22), (kS [99, 97, 115, 101])] 23 <| Z2)
 (Z0 (Z1 <| mM 0 24 <| mK 117 [(Gt 24)] 25 <| mM 25 4 <| Z2)
 (Z0 (Z1 <| mM 0 26 <| mK 115 [(Gt 26), (kS [58])] 27 <| Z2)
 (Z0 (Y1 <| fdo (u1 (YC 7) (Gt 3)) (St 28) <| fdr 1 [] 1 (Gt 28) (Zh (Gt 28)) (St 29) <| fdo (fmv (Gt 4)) (St 30) <| fdo (fmv (Gt 0)) (St 31) <| fdp 4 [0, 1, 2] (Zo 216 [(Gt 31)]) (St 32) <| fdo (ZR [(.int .u64 (.ofNat 0)), (.int .i64 (.ofNat 0))] [(0, 1, (Gt 30)), (1, 1, (Gt 32))]) (St 33) <| fdo (Y6 166 1 [(.int .u64 (.ofNat 0)), (.int .i64 (.ofNat 0))] [(0, 2, (Gt 33))]) (St 34) <| fdl 7 [] (u2 (YY 166 2 16) (Gt 29) (Gt 34)) (St 35) <| fdo (u1 (YC 7) (Gt 3)) (St 36) <| fdl 9 [] (ZE 1 (Gt 36) (Gt 35)) p0 <| Y2)
 (Z1 <| mM 0 37 <| mK 115 [(Gt 37), (kS [59])] 38 <| Z2))))))))))
 (Z0 (Z0 (Z1 <| mM 0 39 <| mK 118 [(Gt 39), (kS [101, 108, 115, 101])] 40 <| Z2)
 (Z6 (Gt 40) (Z0 (Z1 <| mM 0 41 <| mK 115 [(Gt 41), (kS [58])] 42 <| Z2)
 (Z0 (Z1 <| mM 0 43 <| mK 216 [(Gt 43)] 44 <| mF 6 3 45 <| mS 45 (Gt 44) <| Z2)
 (Z1 <| mM 0 46 <| mK 115 [(Gt 46), (kS [59])] 47 <| Z2))) Z9))
 (Z0 (Z1 <| mM 0 48 <| mK 115 [(Gt 48), (kS [125])] 49 <| Z2)
 (Z0 (Z1 <| mM 0 50 <| fo (ZT 8 (Gt 3)) (St 51) <| mK 217 [(Gt 50), (Gt 51)] 52 <| mM 52 2 <| Z2)
 Ze))))))))))
def q156 : FFn := ffn ZV (fun t h => .ok (Gt 2 t) h)
 (Z0 (Z1 <| fo (fmv (kI 0)) (St 2) <| Z2)
 (Z0 (Z0 (Z1 <| mM 0 9 <| mK 119 [(Gt 9)] 10 <| Z2)
 (Z6 (Gt 10) (Z0 (Z1 <| mM 0 11 <| mM 0 12 <| mK 211 [(Gt 12)] 13 <| mK 210 [(Gt 11), (Gt 13)] 14 <| mM 14 2 <| Z2)
 Ze) Z9))
 (Z0 (Z0 (Z1 <| mM 0 15 <| mK 212 [(Gt 15)] 16 <| fo (u1 (r_un .not) (Gt 16)) (St 17) <| Z2)
 (Z6 (Gt 17) (Z1 <| mM 0 18 <| mK 79 [(Gt 18), (kI 4)] 19 <| Z2) Z9))
 (Z0 (Z1 <| mM 0 20 <| mK 78 [(Gt 20)] 21 <| fo (u1 (Xf false 1 1) (Gt 21)) (St 22) <| mM 22 3 <| Z2)
 (Z0 (Z1 <| mM 0 23 <| mN 23 24 <| mF 1 24 25 <| mL 25 26 <| fo (Zc Y7 .add 3 (.tmp 26) (.const (.int .i64 (.ofNat 1))) (Gt 26) (kI 1)) (St 27) <| mN 23 28 <| mF 1 28 29 <| mS 29 (Gt 27) <| Z2)
 (Z0 (Z0 (Z1 <| mM 3 31 <| mK 213 [(Gt 31)] 32 <| mM 32 30 <| mE 0 30 33 <| mE 1 30 34 <| mM 33 4 <| mM 34 5 <| Z2)
 (Z0 (Z1 <| mM 5 35 <| Z2)
 (Z6 (Gt 35) (Z0 (Z1 <| mM 4 36 <| mK 214 [(Gt 36)] 37 <| fo (Zr 117 [(.int .i64 (.ofNat 0)), (.int .i64 (.ofNat 0)), (.v (.bool false)), (.str []), (.v (.slice none 0 0)), (.int .i64 (.ofNat 0)), (.int .i64 (.ofNat 0)), (.v (.slice none 0 0))]) (St 6) <| fo (ZE 8 (Gt 6) (Gt 37)) p0 <| Z2)
 (Z0 (Z1 <| mM 0 38 <| mK 215 [(Gt 38)] 39 <| mF 5 6 40 <| mS 40 (Gt 39) <| Z2)
 (Z0 (Z0 (Z1 <| mM 4 41 <| fo (mQ 114 41 7) (St 42) <| mM 42 43 <| fog (Gt 43) false (fmv (Gt 4)) (St 44) <| fog (Gt 43) false (mQ 114 44 8) (St 45) <| fo (ZO (Gt 43) (kD (.v (.bool true))) (Gt 45)) (St 46) <| Z2)
 (Z6 (Gt 46) (Z1 <| mM 0 47 <| mK 216 [(Gt 47)] 48 <| mF 6 6 49 <| mS 49 (Gt 48) <| Z2) Z9))
 (Z0 (Z1 <| mM 0 50 <| fo (ZT 8 (Gt 6)) (St 51) <| mK 217 [(Gt 50), (Gt 51)] 52 <| mM 52 2 <| Z2)
 Ze)))) Z9)))
 (Z0 (Z0 (Z1 <| mM 3 53 <| Z2)
 (Zb 0 (Z0 (Z1 <| fo (Zc Yc .eql 9 (.tmp 53) (.const (.string ⟨#[114, 101, 115, 116]⟩)) (Gt 53) (kS [114, 101, 115, 116])) (St 55) <| mM 55 54 <| Z2)
 (Z6 (Gt 54) (Z0 (Z1 <| mK 214 [(kI 6)] 56 <| fo (Zr 117 [(.int .i64 (.ofNat 0)), (.int .i64 (.ofNat 0)), (.v (.bool false)), (.str []), (.v (.slice none 0 0)), (.int .i64 (.ofNat 0)), (.int .i64 (.ofNat 0)), (.v (.slice none 0 0))]) (St 7) <| fo (ZE 8 (Gt 7) (Gt 56)) p0 <| Z2)
 (Z0 (Z1 <| mM 0 57 <| mK 216 [(Gt 57)] 58 <| mF 6 7 59 <| mS 59 (Gt 58) <| Z2)
 (Z0 (Z1 <| mM 0 60 <| fo (ZT 8 (Gt 7)) (St 61) <| mK 217 [(Gt 60), (Gt 61)] 62 <| mM 62 2 <| Z2)
 Ze))) (Z0 (Z1 <| fo (Zc Yc .eql 9 (.tmp 53) (.const (.string ⟨#[116, 97, 105, 108]⟩)) (Gt 53) (kS [116, 97, 105, 108])) (St 64) <| mM 64 63 <| Z2)
 (Z6 (Gt 63) (Z0 (Z1 <| mM 0 65 <| mK 214 [(kI 4)] 66 <| mK 217 [(Gt 65), (Gt 66)] 67 <| mM 67 2 <| Z2)
 Ze) (Z0 (Z1 <| fo (Zc Yc .eql 9 (.tmp 53) (.const (.string ⟨#[110, 111, 110, 101]⟩)) (Gt 53) (kS [110, 111, 110, 101])) (St 69) <| mM 69 68 <| Z2)
 (Z6 (Gt 68) (Z0 (Z1 <| mM 0 70 <| mK 214 [(kI 11)] 71 <| mK 217 [(Gt 70), (Gt 71)] 72 <| mM 72 2 <| Z2)
 Ze) (Z0 (Z1 <| fo (Zc Yc .eql 9 (.tmp 53) (.const (.string ⟨#[115, 119, 105, 116, 99, 104]⟩)) (Gt 53) (kS [115, 119, 105, 116, 99, 104])) (St 74) <| mM 74 73 <| Z2)
 (Z6 (Gt 73) (Z0 (Z1 <| mM 0 75 <| mK 218 [(Gt 75)] 76 <| mM 76 2 <| Z2)
 Ze) Z9))))))))))
 (Z0 (Z1 <| mK 214 [(kI 0)] 77 <| fo (Zr 117 [(.int .i64 (.ofNat 0)), (.int .i64 (.ofNat 0)), (.v (.bool false)), (.str []), (.v (.slice none 0 0)), (.int .i64 (.ofNat 0)), (.int .i64 (.ofNat 0)), (.v (.slice none 0 0))]) (St 8) <| fo (ZE 8 (Gt 8) (Gt 77)) p0 <| Z2)
 (Z0 (Z1 <| mM 3 79 <| mK 156 [(Gt 79)] 80 <| mM 80 78 <| mE 0 78 81 <| mE 1 78 82 <| mE 2 78 83 <| mF 1 8 84 <| mS 84 (Gt 81) <| mF 2 8 85 <| mS 85 (Gt 82) <| Z2)
 (Z0 (Z1 <| mM 0 86 <| fo (ZT 8 (Gt 8)) (St 87) <| mK 210 [(Gt 86), (Gt 87)] 88 <| mM 88 2 <| Z2)
 Ze))))))))))
abbrev q215 : FFn := ffn ZV (fun t h => .ok (Gt 2 t) h)
 (Z0 (Z1 <| fo (fmv (kI 0)) (St 2) <| Z2)
 (Z0 (Z1 <| mM 0 3 <| mM 0 4 <| mK 212 [(Gt 4)] 5 <| mM 0 6 <| fo (fmkf (.func 157) [(Gt 6)] []) (St 7) <| mK 259 [(Gt 3), (Gt 5), (Gt 7)] 8 <| mM 8 2 <| Z2)
 Ze))
variable {tk : D} {l : List Tok} {lp : Nat} {h : H} {Q : D → H → Prop} {R : Pan}
structure Ca where
  n : Nat
  ty : Nat
  deriving Inhabited
structure Ty where
  k : Nat
  size : Nat
  little : Bool
  name : List Nat
  args : List Nat
  expr : Int
  inner : Int
  cases : List Ca
  deriving Inhabited
def CaR (x : Ca) (c : List D) : Prop := c = [.int .u64 (.ofNat x.n), .int .i64 (.ofNat x.ty)]
def TyR (x : Ty) (c : List D) : Prop := ∃ da dc, c = [.int .i64 (.ofNat x.k), .int .i64 (.ofNat x.size), .v (.bool x.little), .str x.name, da, .int .i64 x.expr, .int .i64 x.inner, dc] ∧ SlR IntR 1 da x.args ∧ SlR CaR 2 dc x.cases ∧ da.one = true ∧ dc.one = true
theorem tyR_mk {k size : Nat} {little : Bool} {name args : List Nat} {expr inner : Int} {cases : List Ca} {da dc : D} (h1 : SlR IntR 1 da args) (h2 : SlR CaR 2 dc cases) : TyR ⟨k, size, little, name, args, expr, inner, cases⟩ [.int .i64 (.ofNat k), .int .i64 (.ofNat size), .v (.bool little), .str name, da, .int .i64 expr, .int .i64 inner, dc] := ⟨da, dc, rfl, h1, h2, XF h1, XF h2⟩
theorem vc216 (h216 : T 217 = q216) (tks : Toks tk l) {x : Ty} {c : List D} (hx : TyR x c) (hq : atP tk l (Zg h.mem lp) lp h.next fun i dep lf => (lf ≠ lp ∧ lf < h.next) ∧ atF (Zg h.mem lf) fun dc ds de dt => ∃ ts, SlR TyR 8 dt ts ∧ Tp h 117 dt ts.length ∧ ts.length ≤ 1000000 ∧ ((ZQ dt lp ∧ ZQ dt lf) ∧ Bnd de h.next ∧ Sep dt de ∧ ∀ h' dt', SlR TyR 8 dt' (ts ++ [x]) → Tp h' 117 dt' (ts.length + 1) → h.next ≤ h'.next → Bnd dt' h'.next → (∀ l : Nat, l < h.next → l ≠ lf → ZQ dt l → Zg h'.mem l = Zg h.mem l) → Zg h'.mem lf = some (.cells 108 [dc, ds, de, dt']) → ZW dt' dt h.next → Sep dt' de → Sep de dt' → Q (.int .i64 (.ofNat ts.length)) h')) : VC E T 217 [.ptr lp 0, .agg c] h Q R := by
  obtain ⟨i, dep, lf, hm, ⟨hi, hn⟩, ⟨n1, n2⟩, dc, ds, de, dt, hf, ts, hE, hT, hl, ⟨s1, s2⟩, s3, s4, hk⟩ := hq
  have s5 := sepS s4
  have hx' := hx
  obtain ⟨da, dca, rfl, hargs, hcs, hone, hone2⟩ := hx
  have hbd := hT.bnd
  refine Ya h216 ?_
  unfold ZV
  repeat' (with_reducible (first | refine Zk ?_ | refine Zl ?_ | refine ZG ?_ | refine ZF ?_ | refine Zn ?_ | refine Zd ?_ | refine Zm ?_ | refine ZH ?_ | refine Zy ?_ | refine Zi ?_ | refine Zz ?_ | simp (maxSteps := 2000000) (disch := first | assumption | ((try refine Yy (by assumption) ?_); (show ZQ _ _; first | assumption | ((iterate 6 (try refine Zx (by assumption) (by omega) ?_)); first | assumption | exact Zw (by assumption) (by omega) | exact Zv (by assumption) (by assumption) | exact Zf | exact Y5 (by assumption) (by assumption) (by assumption) (by omega) (by assumption)))) | omega | (simp only [Z4, Z3, List.length_cons, List.length_nil, List.length_append, List.length_take, List.length_drop]; omega) | fail) only [go_sem, -Int.reduceOfNat, *, hone, hone2] | ((first | refine ZL ?_ ?_ | refine ZC ?_ ?_ | refine ZK ?_ ?_ | refine ZA ?_ ?_ | refine ZB ?_ ?_ | refine Zj ?_ ?_) <;> intro _) | (refine vL_app (F := TyR) (xs := ts) (x := x) hE (hT.mono ?_ (fun _ _ _ => ?_)) hx' ?_ ?_ ?_ hl ?_ ?_) | (refine hk _ _ (by assumption) ?_ ?_ ?_ ?_ ?_ ?_ ?_ ?_) | (refine ZP ?_ ?_ ?_) | refine And.intro ?_ ?_ | (refine ZX (by assumption) ?_) | exact ZW.refl | (refine ZW.trans (by assumption) (by first | omega | (simp only [Z4, Z3]; omega)) ?_) | exact W5 | exact X6 | exact Y9 | (refine W6 (by assumption) (by assumption) (by first | omega | (simp only [Z4, Z3]; omega)) ?_) | (refine W0 (by assumption) (by assumption) (by first | omega | (simp only [Z4, Z3]; omega)) ?_) | (refine ⟨_, YU, ?_⟩) | (refine ⟨_, by assumption, ?_⟩) | (refine Tp.mono (by assumption) ?_ (fun _ _ _ => ?_)) | assumption | (show ZQ _ _; first | assumption | ((iterate 6 (try refine Zx (by assumption) (by omega) ?_)); first | assumption | exact Zw (by assumption) (by omega) | exact Zv (by assumption) (by assumption) | exact Zf | exact Y5 (by assumption) (by assumption) (by assumption) (by omega) (by assumption))) | (show _ < _; omega) | (show _ ≤ _; omega) | (show (_ : Nat) ≠ _; omega) | (show ¬ (_ : Nat) = _; omega) | (show (_ : Nat) = _; omega) | (intro _; intros) | (exact False.elim (by assumption)) | (refine Yk ?_)))
section
variable (l : List Tok)
def Xs (f i dep : Nat) (es : List Ex) : Res (Nat × Nat × List Ex) :=
  if isT (Zp l i) [91] then
    match Yt l f 1 (i + 1) dep es with
    | .ok (k, j, es') => if isT (Zp l j) [93] then .ok (k, j + 1, es') else .err j 4
    | .err j e => .err j e
    | .oof => .oof
  else .err i 4
def arrayS (f : Nat) (t : Ty) (i dep : Nat) (es : List Ex) (ts : List Ty) : Res (Nat × Nat × List Ex × List Ty) :=
  if isT (Zp l i) [91] then
    match Xs l f i dep es with
    | .ok (x, j, es') => .ok (ts.length + 1, j, es', ts ++ [t] ++ [⟨5, 0, false, [], [], .ofNat x, .ofNat ts.length, []⟩])
    | .err j e => .err j e
    | .oof => .oof
  else .ok (ts.length, i, es, ts ++ [t])
end
theorem Yl {α β γ δ : Type} {S : Res (α × β × γ × δ)} {F : α × β × γ × δ → Prop} {G : Nat → Nat → Prop} (hn : S = .oof → False) (h1 : ∀ a b c d, S = .ok (a, b, c, d) → F (a, b, c, d)) (h2 : ∀ j e, S = .err j e → G j e) : RES S F G :=
  RES_cases hn (fun a ha => h1 a.1 a.2.1 a.2.2.1 a.2.2.2 ha) h2
abbrev FRT (h h' : H) (lp lf : Nat) (de dt : D) : Prop := ∀ l : Nat, l < h.next → l ≠ lp → l ≠ lf → ZQ de l → ZQ dt l → Zg h'.mem l = Zg h.mem l
abbrev FT (tk : D) (l : List Tok) (h : H) (lp lf : Nat) (dc ds de dt : D) (i dep : Nat) (es : List Ex) (ts : List Ty) (c : Nat) (Q : D → H → Prop) (a : Nat × Nat × List Ex × List Ty) : Prop :=
  ∀ h' de' dt', SlR ExR 5 de' a.2.2.1 → SlR TyR 8 dt' a.2.2.2 → Tp h' 290 de' a.2.2.1.length → Tp h' 117 dt' a.2.2.2.length → (i + 1 ≤ a.2.1 + c ∧ a.2.1 < l.length ∧ a.2.2.1.length + i ≤ es.length + a.2.1 ∧ a.2.2.2.length + i ≤ ts.length + a.2.1 + c ∧ a.1 < a.2.2.2.length) → h.next ≤ h'.next → Bnd de' h'.next → Bnd dt' h'.next → FRT h h' lp lf de dt → Zg h'.mem lp = some (.cells 129 [tk, .int .i64 (.ofNat a.2.1), .int .i64 (.ofNat dep), .ptr lf 0]) → Zg h'.mem lf = some (.cells 108 [dc, ds, de', dt']) → ZW de' de h.next → ZW dt' dt h.next → Sep dt' de' → Sep de' dt' → Q (.int .i64 (.ofNat a.1)) h'
abbrev GT (l : List Tok) (h : H) (lp lf : Nat) (de dt : D) (R : Pan) (j e : Nat) : Prop := ∀ h', j < l.length → h.next ≤ h'.next → FRT h h' lp lf de dt → R (fault3 (Zp l j) e) h'
abbrev CT (tk : D) (l : List Tok) (h : H) (lp : Nat) (c : Nat) (S : Nat → Nat → List Ex → List Ty → Res (Nat × Nat × List Ex × List Ty)) (Q : D → H → Prop) (R : Pan) : Prop :=
  atP tk l (Zg h.mem lp) lp h.next fun i dep lf => (lf ≠ lp ∧ lf < h.next) ∧ atF (Zg h.mem lf) fun dc ds de dt => ∃ es, SlR ExR 5 de es ∧ ∃ ts, SlR TyR 8 dt ts ∧ Tp h 290 de es.length ∧ Tp h 117 dt ts.length ∧ (es.length ≤ i ∧ ts.length + c ≤ i) ∧ (ZQ de lp ∧ ZQ de lf ∧ ZQ dt lp ∧ ZQ dt lf) ∧ Sep dt de ∧
    RES (S i dep es ts) (FT tk l h lp lf dc ds de dt i dep es ts c Q) (GT l h lp lf de dt R)
theorem vc209 (h77 : T 78 = q77) (h78 : T 79 = q78) (h73 : T 74 = q73) (h114 : T 115 = q114) (h117 : T 118 = q117) (h208 : T 209 = XJ) (h155 : T 156 = XL) (h154 : T 155 = XX) (h118 : T 119 = W1) (h115 : T 116 = q115) (h116 : T 117 = q116) (h257 : T 258 = q257) (h258 : T 259 = q258) (h261 : T 262 = q261) (h213 : T 214 = q213) (h214 : T 215 = q214) (h216 : T 217 = q216) (h209 : T 210 = q209) (tks : Toks tk l) {f : Nat}
    (ihE : ∀ {h : H} {Q : D → H → Prop} {R : Pan}, CE tk l h lp (fun i dep es => Yt l f 1 i dep es) Q R → VC E T 159 [.ptr lp 0] h Q R)
    {t : Ty} {c : List D} (hx : TyR t c) (hq : CT tk l h lp 1 (fun i dep es ts => arrayS l f t i dep es ts) Q R) : VC E T 210 [.ptr lp 0, .agg c] h Q R := by
  obtain ⟨i, dep, lf, hm, ⟨hi, hn⟩, ⟨n1, n2⟩, dc, ds, de, dt, hf, es, hE, ts, hY, hT, hU, ⟨hl, hl2⟩, ⟨s1, s2, s3, s4⟩, s5, hk⟩ := hq
  have s6 := sepS s5
  have hbd := hT.bnd
  have hbu := hU.bnd
  have hsm := tks.small
  have hx' := hx
  obtain ⟨da, dca, rfl, hargs, hcs, hone, hone2⟩ := hx
  refine Ya h209 ?_
  unfold ZV
  repeat' (with_reducible (first | refine Zk ?_ | refine Zl ?_ | refine ZG ?_ | refine ZF ?_ | refine Zn ?_ | refine Zd ?_ | refine Zm ?_ | refine ZH ?_ | refine Zy ?_ | refine Zi ?_ | refine Zz ?_ | refine vc216 h216 tks hx' ?_ | refine vc216 h216 tks (tyR_mk SlR.nil SlR.nil) ?_ | refine Ya h213 ?_ | refine Ya h214 ?_ | refine vc73 h77 h73 tks ?_ | refine vc114 h77 h78 h73 h114 tks ?_ | refine ihE ?_ | simp (maxSteps := 2000000) (disch := first | assumption | ((try refine Yy (by assumption) ?_); (show ZQ _ _; first | assumption | ((iterate 6 (try refine Zx (by assumption) (by omega) ?_)); first | assumption | exact Zw (by assumption) (by omega) | exact Zv (by assumption) (by assumption) | exact Zf | exact Y5 (by assumption) (by assumption) (by assumption) (by omega) (by assumption)))) | omega | (simp only [Z4, Z3, List.length_cons, List.length_nil, List.length_append, List.length_take, List.length_drop]; omega) | fail) only [go_sem, -Int.reduceOfNat, *, CE, FE, GE, ZV] | ((first | refine ZL ?_ ?_ | refine ZC ?_ ?_ | refine ZK ?_ ?_ | refine ZA ?_ ?_ | refine ZB ?_ ?_ | refine Zj ?_ ?_) <;> intro _) | (show Q _ _; simp only [arrayS, Xs, ZN, if_true, if_false, not_true_eq_false, not_false_eq_true, and_true, true_and, and_false, false_and, *] at hk; refine hk _ _ _ (by assumption) (by assumption) ?_ ?_ ?_ ?_ ?_ ?_ ?_ ?_ ?_ ?_ ?_ ?_ ?_) | (show R _ _; simp only [arrayS, Xs, ZD, if_true, if_false, not_true_eq_false, not_false_eq_true, and_true, true_and, and_false, false_and, *] at hk; refine hk _ ?_ ?_ ?_) | (show False; simp only [arrayS, Xs, Zu, if_true, if_false, not_true_eq_false, not_false_eq_true, and_true, true_and, and_false, false_and, *] at hk) | (refine ZP ?_ ?_ ?_) | refine And.intro ?_ ?_ | (refine ZX (by assumption) ?_) | exact ZW.refl | (refine ZW.trans (by assumption) (by first | omega | (simp only [Z4, Z3]; omega)) ?_) | exact W5 | exact X6 | exact Y9 | (refine W6 (by assumption) (by assumption) (by first | omega | (simp only [Z4, Z3]; omega)) ?_) | (refine W0 (by assumption) (by assumption) (by first | omega | (simp only [Z4, Z3]; omega)) ?_) | (refine ⟨_, YU, ?_⟩) | (refine ⟨_, by assumption, ?_⟩) | (refine Tp.mono (by assumption) ?_ (fun _ _ _ => ?_)) | assumption | (show ZQ _ _; first | assumption | ((iterate 6 (try refine Zx (by assumption) (by omega) ?_)); first | assumption | exact Zw (by assumption) (by omega) | exact Zv (by assumption) (by assumption) | exact Zf | exact Y5 (by assumption) (by assumption) (by assumption) (by omega) (by assumption))) | (show _ < _; omega) | (show _ ≤ _; omega) | (show (_ : Nat) ≠ _; omega) | (show ¬ (_ : Nat) = _; omega) | (show (_ : Nat) = _; omega) | (intro _; intros) | (exact False.elim (by assumption)) | (refine Yk ?_)))
end
section
variable {tk : D} {l : List Tok} {lp : Nat} {h : H} {Q : D → H → Prop} {R : Pan}
section
variable (l : List Tok)
def argsS (f : Nat) : Nat → List Nat → Nat → Nat → List Ex → Res (List Nat × Nat × List Ex)
  | 0, _, _, _, _ => .oof
  | g + 1, xs, i, dep, es =>
    if isT (Zp l i) [44] then
      if isB (Zp l (i + 1)) ∧ ¬ xs.length < 64 then .err (i + 1) 10
      else match Yt l f 1 (i + 1) dep es with
        | .ok (x, j, es') => argsS f g (xs ++ [x]) j dep es'
        | .err j e => .err j e
        | .oof => .oof
    else if isT (Zp l i) [41] then .ok (xs, i + 1, es) else .err i 4
def refS (f i dep : Nat) (es : List Ex) : Res (Ty × Nat × List Ex) :=
  if isN (Zp l i) then
    if isT (Zp l (i + 1)) [40] then
      match Yt l f 1 (i + 2) dep es with
      | .ok (x, j, es') =>
        match argsS l f f [x] j dep es' with
        | .ok (xs, j', es'') => .ok (⟨10, 0, false, (Zp l i).s, xs, .negSucc 0, .negSucc 0, []⟩, j', es'')
        | .err j e => .err j e
        | .oof => .oof
      | .err j e => .err j e
      | .oof => .oof
    else .ok (⟨10, 0, false, (Zp l i).s, [], .negSucc 0, .negSucc 0, []⟩, i + 1, es)
  else .err i 4
end
abbrev FR (tk : D) (l : List Tok) (h : H) (lp lf : Nat) (dc ds de dt : D) (i dep : Nat) (es : List Ex) (Q : D → H → Prop) (a : Ty × Nat × List Ex) : Prop :=
  ∀ h' de' c, SlR ExR 5 de' a.2.2 → TyR a.1 c → Tp h' 290 de' a.2.2.length → (i < a.2.1 ∧ a.2.1 < l.length ∧ a.2.2.length + i ≤ es.length + a.2.1) → h.next ≤ h'.next → Bnd de' h'.next → FRE h h' lp lf de → Zg h'.mem lp = some (.cells 129 [tk, .int .i64 (.ofNat a.2.1), .int .i64 (.ofNat dep), .ptr lf 0]) → Zg h'.mem lf = some (.cells 108 [dc, ds, de', dt]) → ZW de' de h.next → Sep dt de' → Sep de' dt → Q (.agg c) h'
abbrev CR (tk : D) (l : List Tok) (h : H) (lp : Nat) (S : Nat → Nat → List Ex → Res (Ty × Nat × List Ex)) (Q : D → H → Prop) (R : Pan) : Prop :=
  atP tk l (Zg h.mem lp) lp h.next fun i dep lf => (lf ≠ lp ∧ lf < h.next) ∧ atF (Zg h.mem lf) fun dc ds de dt => ∃ es, SlR ExR 5 de es ∧ Tp h 290 de es.length ∧ es.length ≤ i ∧ (ZQ de lp ∧ ZQ de lf) ∧ Bnd dt h.next ∧ Sep dt de ∧
    RES (S i dep es) (FR tk l h lp lf dc ds de dt i dep es Q) (GE l h lp lf de R)
abbrev IA (tk : D) (l : List Tok) (h : H) (lp lf : Nat) (dc ds de dt : D) (i dep : Nat) (es : List Ex) (f : Nat) (nm : List Nat) (Q : D → H → Prop) (R : Pan) (n : Nat) (t1 : Tr D) (h1 : H) : Prop :=
  n ≤ f ∧ Gt 0 t1 = .ptr lp 0 ∧ Gt 2 t1 = .ptr h.next 0 ∧ ∃ lt, Gt 3 t1 = .ptr lt 0 ∧ ∃ da, Zg h1.mem lt = some (.cells 117 [.int .i64 (.ofNat 10), .int .i64 (.ofNat 0), .v (.bool false), .str nm, da, .int .i64 (.negSucc 0), .int .i64 (.negSucc 0), .v (.slice none 0 0)]) ∧ ∃ j, Zg h1.mem lp = some (.cells 129 [tk, .int .i64 (.ofNat j), .int .i64 (.ofNat dep), .ptr lf 0]) ∧ ∃ de1, Zg h1.mem lf = some (.cells 108 [dc, ds, de1, dt]) ∧ ∃ z2, Zg h1.mem h.next = some (.cells 117 z2) ∧ z2.length = 8 ∧ ∃ es1, SlR ExR 5 de1 es1 ∧ ∃ xs, SlR IntR 1 da xs ∧ D.same da da = true ∧ Tp h1 290 de1 es1.length ∧ Tp h1 3 da xs.length ∧ Bnd de1 h1.next ∧ Bnd da h1.next ∧ h.next + 1 ≤ lt ∧ lt < h1.next ∧ ZQ de1 lt ∧ ZQ de1 h.next ∧ ZQ da lt ∧ ZQ da h.next ∧ ZW da (.v (.slice none 0 0)) h.next ∧ Sep da de1 ∧ Sep de1 da ∧ Sep dt de1 ∧ Sep de1 dt ∧ xs.length ≤ j ∧ ZW de1 de h.next ∧ i < j ∧ j < l.length ∧ es1.length + i ≤ es.length + j ∧ h.next ≤ h1.next ∧ FRE h h1 lp lf de ∧ RES (argsS l f n xs j dep es1) (fun a => FR tk l h lp lf dc ds de dt i dep es Q (⟨10, 0, false, nm, a.1, .negSucc 0, .negSucc 0, []⟩, a.2.1, a.2.2)) (GE l h lp lf de R)
theorem intR_mk {n : Nat} : IntR n [.int .i64 (.ofNat n)] := rfl
theorem RES_bind3 {α β γ δ : Type} {S : Res (α × β × γ)} {g : α → β → γ → δ} {F : δ → Prop} {G : Nat → Nat → Prop} : RES (match S with | .ok (a, b, c) => .ok (g a b c) | .err j e => .err j e | .oof => .oof) F G ↔ RES S (fun a => F (g a.1 a.2.1 a.2.2)) G := by cases S <;> rfl
theorem vc210 (h77 : T 78 = q77) (h78 : T 79 = q78) (h73 : T 74 = q73) (h114 : T 115 = q114) (h117 : T 118 = q117) (h208 : T 209 = XJ) (h155 : T 156 = XL) (h154 : T 155 = XX) (h118 : T 119 = W1) (h115 : T 116 = q115) (h116 : T 117 = q116) (h257 : T 258 = q257) (h258 : T 259 = q258) (h261 : T 262 = q261) (h213 : T 214 = q213) (h74 : T 75 = q74) (h210 : T 211 = q210) (tks : Toks tk l) {f : Nat}
    (ihE : ∀ {h : H} {Q : D → H → Prop} {R : Pan}, CE tk l h lp (fun i dep es => Yt l f 1 i dep es) Q R → VC E T 159 [.ptr lp 0] h Q R)
    (hq : CR tk l h lp (fun i dep es => refS l f i dep es) Q R) : VC E T 211 [.ptr lp 0] h Q R := by
  obtain ⟨i, dep, lf, hm, ⟨hi, hn⟩, ⟨n1, n2⟩, dc, ds, de, dt, hf, es, hE, hT, hl, ⟨s1, s2⟩, s3, s4, hk⟩ := hq
  have s5 := sepS s4
  have hbd := hT.bnd
  have hsm := tks.small
  refine Ya h210 ?_
  unfold ZV
  repeat' (with_reducible (first | refine Zk ?_ | refine Zl ?_ | refine ZG ?_ | refine ZF ?_ | refine Zn ?_ | refine Zd ?_ | refine Zm ?_ | refine ZH ?_ | refine Zy ?_ | refine Zi ?_ | refine Zz ?_ | refine vc115 h77 h78 h208 h155 h154 h118 h115 tks ?_ | refine Ya h213 ?_ | refine vc117 h77 h73 h117 tks ?_ | refine ihE ?_ | simp (maxSteps := 2000000) (disch := first | assumption | ((try refine Yy (by assumption) ?_); (show ZQ _ _; first | assumption | ((iterate 6 (try refine Zx (by assumption) (by omega) ?_)); first | assumption | exact Zw (by assumption) (by omega) | exact Zv (by assumption) (by assumption) | exact Zf | exact Y5 (by assumption) (by assumption) (by assumption) (by omega) (by assumption)))) | omega | (simp only [Z4, Z3, List.length_cons, List.length_nil, List.length_append, List.length_take, List.length_drop]; omega) | fail) only [go_sem, -Int.reduceOfNat, *, CE, FE, GE, IA, ZV, Option.some.injEq, AObj.cells.injEq, D.int.injEq, D.ptr.injEq, Int.ofNat.injEq, exists_eq_left'] | ((first | refine ZL ?_ ?_ | refine ZC ?_ ?_ | refine ZK ?_ ?_ | refine ZA ?_ ?_ | refine ZB ?_ ?_ | refine Zj ?_ ?_) <;> intro _) | (refine W4 (IA tk l h lp lf dc ds de dt i dep es f (Zp l i).s Q R) (n := f) ?_ ?_) | (refine Tp_mk ?_ ?_) | (refine bnd_sl ?_) | (refine iff_slN ?_) | (refine sep_sl ?_) | (refine sep_sl' ?_) | (refine nown_sl ?_) | exact YU | exact int_same YU | (show Q _ _; simp only [refS, RES_bind3, ZN, if_true, if_false, not_true_eq_false, not_false_eq_true, and_true, true_and, and_false, false_and, *] at hk; refine hk _ _ _ (by assumption) (by first | assumption | exact tyR_mk (by first | assumption | exact SlR.nil) SlR.nil) ?_ ?_ ?_ ?_ ?_ ?_ ?_ ?_ ?_ ?_) | (show R _ _; simp only [refS, RES_bind3, ZD, if_true, if_false, not_true_eq_false, not_false_eq_true, and_true, true_and, and_false, false_and, *] at hk; refine hk _ ?_ ?_ ?_) | (show False; simp only [refS, RES_bind3, Zu, if_true, if_false, not_true_eq_false, not_false_eq_true, and_true, true_and, and_false, false_and, *] at hk) | (refine ZP ?_ ?_ ?_) | refine And.intro ?_ ?_ | (refine ZX (by assumption) ?_) | exact ZW.refl | (refine ZW.trans (by assumption) (by first | omega | (simp only [Z4, Z3]; omega)) ?_) | exact W5 | exact X6 | exact Y9 | (refine W6 (by assumption) (by assumption) (by first | omega | (simp only [Z4, Z3]; omega)) ?_) | (refine W0 (by assumption) (by assumption) (by first | omega | (simp only [Z4, Z3]; omega)) ?_) | (refine ⟨_, YU, ?_⟩) | (refine ⟨_, by assumption, ?_⟩) | (refine Tp.mono (by assumption) ?_ (fun _ _ _ => ?_)) | assumption | (show ZQ _ _; first | assumption | ((iterate 6 (try refine Zx (by assumption) (by omega) ?_)); first | assumption | exact Zw (by assumption) (by omega) | exact Zv (by assumption) (by assumption) | exact Zf | exact Y5 (by assumption) (by assumption) (by assumption) (by omega) (by assumption))) | (show _ < _; omega) | (show _ ≤ _; omega) | (show (_ : Nat) ≠ _; omega) | (show ¬ (_ : Nat) = _; omega) | (show (_ : Nat) = _; omega) | (intro _; intros) | (exact False.elim (by assumption)) | fail))
  all_goals
    rintro (_ | n) t1 h1 ⟨gn, g0, g2, lt, g3, da, gm, j1, gl, de1, gf, z2, gz, gz8, es1, gE, xs, gI, gsm, gT, gU, w1, w2, w3, w4, w5, w6, w7, w7a, w7', w8, w8', w8a, w8b, w9, w10, w11, w12, w13, gnx, gfr, hk⟩
    · simp only [argsS, Zu] at hk
    have hmj := tks.more j1 w12
    have gone := XF gI
    have glen := gI.len
    repeat' (with_reducible (first | refine Zk ?_ | refine Zl ?_ | refine ZG ?_ | refine ZF ?_ | refine Zn ?_ | refine Zd ?_ | refine Zm ?_ | refine ZH ?_ | refine Zy ?_ | refine Zi ?_ | refine Zz ?_ | refine vc77 h77 tks ?_ | refine vc117 h77 h73 h117 tks ?_ | refine vc257 h77 h73 h208 h155 h154 h118 h257 tks ?_ | refine vc74 h77 h78 h74 tks ?_ | refine vc114 h77 h78 h73 h114 tks ?_ | refine vc78 h77 h78 tks ?_ | refine ihE ?_ | simp (maxSteps := 2000000) (disch := first | assumption | ((try refine Yy (by assumption) ?_); (show ZQ _ _; first | assumption | ((iterate 6 (try refine Zx (by assumption) (by omega) ?_)); first | assumption | exact Zw (by assumption) (by omega) | exact Zv (by assumption) (by assumption) | exact Zf | exact Y5 (by assumption) (by assumption) (by assumption) (by omega) (by assumption)))) | omega | (simp only [Z4, Z3, List.length_cons, List.length_nil, List.length_append, List.length_take, List.length_drop]; omega) | fail) only [go_sem, -Int.reduceOfNat, *, CE, FE, GE, IA, ZV, Option.some.injEq, AObj.cells.injEq, D.int.injEq, D.ptr.injEq, Int.ofNat.injEq, exists_eq_left', gone, glen] | ((first | refine ZL ?_ ?_ | refine ZC ?_ ?_ | refine ZK ?_ ?_ | refine ZA ?_ ?_ | refine ZB ?_ ?_ | refine Zj ?_ ?_) <;> intro _) | (refine ⟨n, Nat.lt_succ_self n, ?_⟩) | (refine vL_app (F := IntR) (xs := xs) gI (Tp.mono gU ?_ (fun _ _ _ => ?_)) (intR_mk) ?_ ?_ ?_ ?_ ?_ ?_) | exact int_same (by assumption) | (show Q _ _; simp only [argsS, ZN, if_true, if_false, not_true_eq_false, not_false_eq_true, and_true, true_and, and_false, false_and, *] at hk; refine hk _ _ _ (by assumption) (by first | assumption | exact tyR_mk (by first | assumption | exact SlR.nil) SlR.nil) ?_ ?_ ?_ ?_ ?_ ?_ ?_ ?_ ?_ ?_) | (show R _ _; simp only [argsS, ZD, if_true, if_false, not_true_eq_false, not_false_eq_true, and_true, true_and, and_false, false_and, *] at hk; refine hk _ ?_ ?_ ?_) | (show False; simp only [argsS, Zu, if_true, if_false, not_true_eq_false, not_false_eq_true, and_true, true_and, and_false, false_and, *] at hk) | (refine ZP ?_ ?_ ?_) | refine And.intro ?_ ?_ | (refine ZX (by assumption) ?_) | exact ZW.refl | (refine ZW.trans (by assumption) (by first | omega | (simp only [Z4, Z3]; omega)) ?_) | exact W5 | exact X6 | exact Y9 | (refine W6 (by assumption) (by assumption) (by first | omega | (simp only [Z4, Z3]; omega)) ?_) | (refine W0 (by assumption) (by assumption) (by first | omega | (simp only [Z4, Z3]; omega)) ?_) | (refine ⟨_, YU, ?_⟩) | (refine ⟨_, by assumption, ?_⟩) | (refine Tp.mono (by assumption) ?_ (fun _ _ _ => ?_)) | assumption | (show ZQ _ _; first | assumption | ((iterate 6 (try refine Zx (by assumption) (by omega) ?_)); first | assumption | exact Zw (by assumption) (by omega) | exact Zv (by assumption) (by assumption) | exact Zf | exact Y5 (by assumption) (by assumption) (by assumption) (by omega) (by assumption))) | (show _ < _; omega) | (show _ ≤ _; omega) | (show (_ : Nat) ≠ _; omega) | (show ¬ (_ : Nat) = _; omega) | (show (_ : Nat) = _; omega) | (intro _; intros) | (exact False.elim (by assumption)) | fail))
  all_goals trace_state
end
section
variable {tk : D} {l : List Tok} {lp : Nat} {h : H} {Q : D → H → Prop} {R : Pan}
section
variable (l : List Tok)
def inS {β : Type} (i dep : Nat) (r : Res β) : Res β := if isK (Zp l i) then (if dep < 32 then r else .err i 8) else .err i 4
mutual
def Y8 : Nat → Nat → Nat → List Ex → List Ty → Res (Nat × Nat × List Ex × List Ty)
  | 0, _, _, _, _ => .oof
  | f + 1, i, dep, es, ts =>
    if isN (Zp l i) then
      match refS l f i dep es with
      | .ok (t, j, es') => arrayS l f t j dep es' ts
      | .err j e => .err j e
      | .oof => .oof
    else if isK (Zp l i) then
      if (Ys (Zp l i).s).2 = true then
        match Xs l f (i + 1) dep es with
        | .ok (x, j, es') =>
          if (Ys (Zp l i).s).1 = 7 ∨ (Ys (Zp l i).s).1 = 8 then
            match inS l j dep (Y8 f j (dep + 1) es' ts) with
              | .ok (k, j', es'', ts') => .ok (ts'.length, j', es'', ts' ++ [⟨(Ys (Zp l i).s).1, 0, false, [], [], .ofNat x, .ofNat k, []⟩])
              | .err j e => .err j e
              | .oof => .oof
          else .ok (ts.length, j, es', ts ++ [⟨(Ys (Zp l i).s).1, 0, false, [], [], .ofNat x, .negSucc 0, []⟩])
        | .err j e => .err j e
        | .oof => .oof
      else if (Zp l i).s = [114, 101, 115, 116] then
        match inS l (i + 1) dep (Y8 f (i + 1) (dep + 1) es ts) with
          | .ok (k, j', es'', ts') => .ok (ts'.length, j', es'', ts' ++ [⟨6, 0, false, [], [], .negSucc 0, .ofNat k, []⟩])
          | .err j e => .err j e
          | .oof => .oof
      else if (Zp l i).s = [116, 97, 105, 108] then .ok (ts.length, i + 1, es, ts ++ [⟨4, 0, false, [], [], .negSucc 0, .negSucc 0, []⟩])
      else if (Zp l i).s = [110, 111, 110, 101] then .ok (ts.length, i + 1, es, ts ++ [⟨11, 0, false, [], [], .negSucc 0, .negSucc 0, []⟩])
      else if (Zp l i).s = [115, 119, 105, 116, 99, 104] then YM f (i + 1) dep es ts
      else arrayS l f ⟨0, (integ (Zp l i).s).1, (integ (Zp l i).s).2.1, [], [], .negSucc 0, .negSucc 0, []⟩ (i + 1) dep es ts
    else .err i 4
def YM : Nat → Nat → Nat → List Ex → List Ty → Res (Nat × Nat × List Ex × List Ty)
  | 0, _, _, _, _ => .oof
  | f + 1, i, dep, es, ts =>
    if isT (Zp l i) [40] then
      match Yt l f 1 (i + 1) dep es with
      | .ok (x, j, es') =>
        if isT (Zp l j) [41] then
          if isT (Zp l (j + 1)) [123] then casesS f x [] (j + 2) dep es' ts else .err (j + 1) 4
        else .err j 4
      | .err j e => .err j e
      | .oof => .oof
    else .err i 4
def casesS : Nat → Nat → List Ca → Nat → Nat → List Ex → List Ty → Res (Nat × Nat × List Ex × List Ty)
  | 0, _, _, _, _, _, _ => .oof
  | f + 1, x, cs, i, dep, es, ts =>
    if isT (Zp l i) [99, 97, 115, 101] then
      if cs.length < 64 then
        if (Zp l (i + 1)).k = 1 then
          if isT (Zp l (i + 2)) [58] then
            match inS l (i + 3) dep (Y8 f (i + 3) (dep + 1) es ts) with
              | .ok (k, j, es', ts') => if isT (Zp l j) [59] then casesS f x (cs ++ [⟨(Zp l (i + 1)).n, k⟩]) (j + 1) dep es' ts' else .err j 4
              | .err j e => .err j e
              | .oof => .oof
          else .err (i + 2) 4
        else .err (i + 1) 4
      else .err i 10
    else if isT (Zp l i) [101, 108, 115, 101] then
      if isT (Zp l (i + 1)) [58] then
        match inS l (i + 2) dep (Y8 f (i + 2) (dep + 1) es ts) with
          | .ok (k, j, es', ts') =>
            if isT (Zp l j) [59] then
              if isT (Zp l (j + 1)) [125] then .ok (ts'.length, j + 2, es', ts' ++ [⟨9, 0, false, [], [], .ofNat x, .ofNat k, cs⟩]) else .err (j + 1) 4
            else .err j 4
          | .err j e => .err j e
          | .oof => .oof
      else .err (i + 1) 4
    else if isT (Zp l i) [125] then .ok (ts.length, i + 1, es, ts ++ [⟨9, 0, false, [], [], .ofNat x, .negSucc 0, cs⟩])
    else .err i 4
end
end
theorem caR_mk {n ty : Nat} : CaR ⟨n, ty⟩ [.int .u64 (.ofNat n), .int .i64 (.ofNat ty)] := rfl
theorem ca_same {d : D} {xs : List Ca} (hr : SlR CaR 2 d xs) : D.same d d = true := slR_same (fun x c h => by unfold CaR at h; subst h; simp only [Yw, Xd, YN, Bool.and_self]) hr
abbrev IC (tk : D) (l : List Tok) (h : H) (lp lf : Nat) (dc ds de dt : D) (i dep : Nat) (es : List Ex) (ts : List Ty) (f : Nat) (Q : D → H → Prop) (R : Pan) (n : Nat) (t1 : Tr D) (h1 : H) : Prop :=
  n ≤ f ∧ Gt 0 t1 = .ptr lp 0 ∧ ∃ lt, Gt 3 t1 = .ptr lt 0 ∧ ∃ x, ∃ da, Zg h1.mem lt = some (.cells 117 [.int .i64 (.ofNat 9), .int .i64 (.ofNat 0), .v (.bool false), .str [], .v (.slice none 0 0), .int .i64 (.ofNat x), .int .i64 (.negSucc 0), da]) ∧ ∃ j, Zg h1.mem lp = some (.cells 129 [tk, .int .i64 (.ofNat j), .int .i64 (.ofNat dep), .ptr lf 0]) ∧ ∃ de1, ∃ dt1, Zg h1.mem lf = some (.cells 108 [dc, ds, de1, dt1]) ∧ ∃ es1, SlR ExR 5 de1 es1 ∧ ∃ ts1, SlR TyR 8 dt1 ts1 ∧ ∃ xs, SlR CaR 2 da xs ∧ D.same da da = true ∧ Tp h1 290 de1 es1.length ∧ Tp h1 117 dt1 ts1.length ∧ Tp h1 166 da xs.length ∧ Bnd de1 h1.next ∧ Bnd dt1 h1.next ∧ Bnd da h1.next ∧ h.next ≤ lt ∧ lt < h1.next ∧ ZQ de1 lt ∧ ZQ dt1 lt ∧ ZQ da lt ∧ ZW da (.v (.slice none 0 0)) h.next ∧ Sep da de1 ∧ Sep de1 da ∧ Sep da dt1 ∧ Sep dt1 da ∧ xs.length ≤ j ∧ ZW de1 de h.next ∧ ZW dt1 dt h.next ∧ Sep dt1 de1 ∧ Sep de1 dt1 ∧ i < j ∧ j < l.length ∧ es1.length + i ≤ es.length + j ∧ ts1.length + i ≤ ts.length + j ∧ h.next ≤ h1.next ∧ FRT h h1 lp lf de dt ∧ RES (casesS l n x xs j dep es1 ts1) (FT tk l h lp lf dc ds de dt i dep es ts 0 Q) (GT l h lp lf de dt R)
end
section
variable {tk : D} {l : List Tok} {lp : Nat} {h : H} {Q : D → H → Prop} {R : Pan}
theorem vc214 (h77 : T 78 = q77) (h78 : T 79 = q78) (h73 : T 74 = q73) (h114 : T 115 = q114) (h117 : T 118 = q117) (h208 : T 209 = XJ) (h155 : T 156 = XL) (h154 : T 155 = XX) (h118 : T 119 = W1) (h115 : T 116 = q115) (h116 : T 117 = q116) (h257 : T 258 = q257) (h258 : T 259 = q258) (h261 : T 262 = q261) (h214 : T 215 = q214) (tks : Toks tk l) {f : Nat}
    (ihF : ∀ {h : H} {Q : D → H → Prop} {R : Pan}, CE tk l h lp (fun i dep es => Yt l f 1 i dep es) Q R → VC E T 159 [.ptr lp 0] h Q R)
    (hq : CE tk l h lp (fun i dep es => Xs l f i dep es) Q R) : VC E T 215 [.ptr lp 0] h Q R := by
  obtain ⟨i, dep, lf, hm, ⟨hi, hn⟩, ⟨n1, n2⟩, dc, ds, de, dt, hf, es, hE, hT, hl, ⟨s1, s2⟩, s3, s4, hk⟩ := hq
  have s5 := sepS s4
  have hbd := hT.bnd
  have hsm := tks.small
  refine Ya h214 ?_
  unfold ZV
  repeat' (with_reducible (first | refine Zk ?_ | refine Zl ?_ | refine ZG ?_ | refine ZF ?_ | refine Zn ?_ | refine Zd ?_ | refine Zm ?_ | refine ZH ?_ | refine Zy ?_ | refine Zi ?_ | refine Zz ?_ | refine ihF ?_ | refine vc114 h77 h78 h73 h114 tks ?_ | simp (maxSteps := 2000000) (disch := first | assumption | ((try refine Yy (by assumption) ?_); (show ZQ _ _; first | assumption | ((iterate 6 (try refine Zx (by assumption) (by omega) ?_)); first | assumption | exact Zw (by assumption) (by omega) | exact Zv (by assumption) (by assumption) | exact Zf | exact Y5 (by assumption) (by assumption) (by assumption) (by omega) (by assumption)))) | omega | (simp only [Z4, Z3, List.length_cons, List.length_nil, List.length_append, List.length_take, List.length_drop]; omega) | fail) only [go_sem, -Int.reduceOfNat, *, CE, FE, GE, ZV] | ((first | refine ZL ?_ ?_ | refine ZC ?_ ?_ | refine ZK ?_ ?_ | refine ZA ?_ ?_ | refine ZB ?_ ?_ | refine Zj ?_ ?_) <;> intro _) | (show Q _ _; simp only [Xs, ZN, if_true, if_false, eq_self, Nat.reduceEqDiff, reduceCtorEq, true_or, or_true, or_self, false_or, or_false, not_true_eq_false, not_false_eq_true, and_true, true_and, and_false, false_and, *] at hk; refine hk _ _ (by assumption) ?_ ?_ ?_ ?_ ?_ ?_ ?_ ?_ ?_ ?_) | (show R _ _; simp only [Xs, ZD, if_true, if_false, eq_self, Nat.reduceEqDiff, reduceCtorEq, true_or, or_true, or_self, false_or, or_false, not_true_eq_false, not_false_eq_true, and_true, true_and, and_false, false_and, *] at hk; refine hk _ ?_ ?_ ?_) | (show False; simp only [Xs, Zu, if_true, if_false, eq_self, Nat.reduceEqDiff, reduceCtorEq, true_or, or_true, or_self, false_or, or_false, not_true_eq_false, not_false_eq_true, and_true, true_and, and_false, false_and, *] at hk) | (refine ZP ?_ ?_ ?_) | refine And.intro ?_ ?_ | (refine ZX (by assumption) ?_) | exact ZW.refl | (refine ZW.trans (by assumption) (by first | omega | (simp only [Z4, Z3]; omega)) ?_) | exact W5 | exact X6 | exact Y9 | (refine W6 (by assumption) (by assumption) (by first | omega | (simp only [Z4, Z3]; omega)) ?_) | (refine W0 (by assumption) (by assumption) (by first | omega | (simp only [Z4, Z3]; omega)) ?_) | (refine ⟨_, YU, ?_⟩) | (refine ⟨_, by assumption, ?_⟩) | (refine Tp.mono (by assumption) ?_ (fun _ _ _ => ?_)) | assumption | (show ZQ _ _; first | assumption | ((iterate 6 (try refine Zx (by assumption) (by omega) ?_)); first | assumption | exact Zw (by assumption) (by omega) | exact Zv (by assumption) (by assumption) | exact Zf | exact Y5 (by assumption) (by assumption) (by assumption) (by omega) (by assumption))) | (show _ < _; omega) | (show _ ≤ _; omega) | (show (_ : Nat) ≠ _; omega) | (show ¬ (_ : Nat) = _; omega) | (show (_ : Nat) = _; omega) | (intro _; intros) | (exact False.elim (by assumption)) | (refine Yk ?_)))
theorem vc215 (h77 : T 78 = q77) (h78 : T 79 = q78) (h73 : T 74 = q73) (h114 : T 115 = q114) (h117 : T 118 = q117) (h208 : T 209 = XJ) (h155 : T 156 = XL) (h154 : T 155 = XX) (h118 : T 119 = W1) (h115 : T 116 = q115) (h116 : T 117 = q116) (h257 : T 258 = q257) (h258 : T 259 = q258) (h261 : T 262 = q261) (h211 : T 212 = q211) (h215 : T 216 = q215) (tks : Toks tk l) {f : Nat}
    (ihK : ∀ {h : H} {Q : D → H → Prop} {R : Pan}, CT tk l h lp 0 (fun i dep es ts => Y8 l f i dep es ts) Q R → VC E T 157 [.ptr lp 0] h Q R)
    (hq : CT tk l h lp 0 (fun i dep es ts => inS l i dep (Y8 l f i (dep + 1) es ts)) Q R) : VC E T 216 [.ptr lp 0] h Q R := by
  obtain ⟨i, dep, lf, hm, ⟨hi, hn⟩, ⟨n1, n2⟩, dc, ds, de, dt, hf, es, hE, ts, hY, hT, hU, ⟨hl, hl2⟩, ⟨s1, s2, s3, s4⟩, s5, hk⟩ := hq
  have s6 := sepS s5
  have hbd := hT.bnd
  have hbu := hU.bnd
  have hsm := tks.small
  refine Ya h215 ?_
  unfold ZV
  repeat' (with_reducible (first | refine Zk ?_ | refine Zl ?_ | refine ZG ?_ | refine ZF ?_ | refine Zn ?_ | refine Zd ?_ | refine Zm ?_ | refine ZH ?_ | refine Zy ?_ | refine Zi ?_ | refine Zz ?_ | refine vc211 h77 h208 h155 h154 h118 h211 tks ?_ | refine Ya h258 ?_ | refine vc78 h77 h78 tks ?_ | refine ihK ?_ | simp (maxSteps := 2000000) (disch := first | assumption | ((try refine Yy (by assumption) ?_); (show ZQ _ _; first | assumption | ((iterate 6 (try refine Zx (by assumption) (by omega) ?_)); first | assumption | exact Zw (by assumption) (by omega) | exact Zv (by assumption) (by assumption) | exact Zf | exact Y5 (by assumption) (by assumption) (by assumption) (by omega) (by assumption)))) | omega | (simp only [Z4, Z3, List.length_cons, List.length_nil, List.length_append, List.length_take, List.length_drop]; omega) | fail) only [go_sem, -Int.reduceOfNat, *, CT, FT, GT, ZV] | ((first | refine ZL ?_ ?_ | refine ZC ?_ ?_ | refine ZK ?_ ?_ | refine ZA ?_ ?_ | refine ZB ?_ ?_ | refine Zj ?_ ?_) <;> intro _) | refine vr_cd ?_ | (show Q _ _; simp only [inS, ZN, if_true, if_false, eq_self, Nat.reduceEqDiff, reduceCtorEq, true_or, or_true, or_self, false_or, or_false, not_true_eq_false, not_false_eq_true, and_true, true_and, and_false, false_and, *] at hk; refine hk _ _ _ (by assumption) (by assumption) ?_ ?_ ?_ ?_ ?_ ?_ ?_ ?_ ?_ ?_ ?_ ?_ ?_) | (show R _ _; simp only [inS, ZD, if_true, if_false, eq_self, Nat.reduceEqDiff, reduceCtorEq, true_or, or_true, or_self, false_or, or_false, not_true_eq_false, not_false_eq_true, and_true, true_and, and_false, false_and, *] at hk; refine hk _ ?_ ?_ ?_) | (show False; simp only [inS, Zu, if_true, if_false, eq_self, Nat.reduceEqDiff, reduceCtorEq, true_or, or_true, or_self, false_or, or_false, not_true_eq_false, not_false_eq_true, and_true, true_and, and_false, false_and, *] at hk) | (refine Yl ?_ ?_ ?_) | (refine ZP ?_ ?_ ?_) | refine And.intro ?_ ?_ | (refine ZX (by assumption) ?_) | exact ZW.refl | (refine ZW.trans (by assumption) (by first | omega | (simp only [Z4, Z3]; omega)) ?_) | exact W5 | exact X6 | exact Y9 | (refine W6 (by assumption) (by assumption) (by first | omega | (simp only [Z4, Z3]; omega)) ?_) | (refine W0 (by assumption) (by assumption) (by first | omega | (simp only [Z4, Z3]; omega)) ?_) | (refine ⟨_, YU, ?_⟩) | (refine ⟨_, by assumption, ?_⟩) | (refine Tp.mono (by assumption) ?_ (fun _ _ _ => ?_)) | assumption | (show ZQ _ _; first | assumption | ((iterate 6 (try refine Zx (by assumption) (by omega) ?_)); first | assumption | exact Zw (by assumption) (by omega) | exact Zv (by assumption) (by assumption) | exact Zf | exact Y5 (by assumption) (by assumption) (by assumption) (by omega) (by assumption))) | (show _ < _; omega) | (show _ ≤ _; omega) | (show (_ : Nat) ≠ _; omega) | (show ¬ (_ : Nat) = _; omega) | (show (_ : Nat) = _; omega) | (intro _; intros) | (exact False.elim (by assumption)) | (refine Yk ?_)))
end
section
variable {tk : D} {l : List Tok} {lp : Nat} {h : H} {Q : D → H → Prop} {R : Pan}
theorem vc217 (h77 : T 78 = q77) (h78 : T 79 = q78) (h73 : T 74 = q73) (h114 : T 115 = q114) (h117 : T 118 = q117) (h208 : T 209 = XJ) (h155 : T 156 = XL) (h154 : T 155 = XX) (h118 : T 119 = W1) (h115 : T 116 = q115) (h116 : T 117 = q116) (h257 : T 258 = q257) (h258 : T 259 = q258) (h261 : T 262 = q261) (h213 : T 214 = q213) (h74 : T 75 = q74) (h211 : T 212 = q211) (h215 : T 216 = q215) (h216 : T 217 = q216) (h217 : T 218 = q217) (tks : Toks tk l) {f : Nat}
    (ihE : ∀ {g : Nat}, g ≤ f → ∀ {h : H} {Q : D → H → Prop} {R : Pan}, CE tk l h lp (fun i dep es => Yt l g 1 i dep es) Q R → VC E T 159 [.ptr lp 0] h Q R)
    (ihK : ∀ {g : Nat}, g ≤ f → ∀ {h : H} {Q : D → H → Prop} {R : Pan}, CT tk l h lp 0 (fun i dep es ts => Y8 l g i dep es ts) Q R → VC E T 157 [.ptr lp 0] h Q R)
    (hq : CT tk l h lp 0 (fun i dep es ts => YM l (f + 1) i dep es ts) Q R) : VC E T 218 [.ptr lp 0] h Q R := by
  obtain ⟨i, dep, lf, hm, ⟨hi, hn⟩, ⟨n1, n2⟩, dc, ds, de, dt, hf, es, hE, ts, hY, hT, hU, ⟨hl, hl2⟩, ⟨s1, s2, s3, s4⟩, s5, hk⟩ := hq
  have s6 := sepS s5
  have hbd := hT.bnd
  have hbu := hU.bnd
  have hsm := tks.small
  refine Ya h217 ?_
  unfold ZV
  repeat' (with_reducible (first | refine Zk ?_ | refine Zl ?_ | refine ZG ?_ | refine ZF ?_ | refine Zn ?_ | refine Zd ?_ | refine Zm ?_ | refine ZH ?_ | refine Zy ?_ | refine Zi ?_ | refine Zz ?_ | refine vc114 h77 h78 h73 h114 tks ?_ | refine Ya h213 ?_ | refine ihE (Nat.le_refl f) ?_ | simp (maxSteps := 2000000) (disch := first | assumption | ((try refine Yy (by assumption) ?_); (show ZQ _ _; first | assumption | ((iterate 6 (try refine Zx (by assumption) (by omega) ?_)); first | assumption | exact Zw (by assumption) (by omega) | exact Zv (by assumption) (by assumption) | exact Zf | exact Y5 (by assumption) (by assumption) (by assumption) (by omega) (by assumption)))) | omega | (simp only [Z4, Z3, List.length_cons, List.length_nil, List.length_append, List.length_take, List.length_drop]; omega) | fail) only [go_sem, -Int.reduceOfNat, *, CE, FE, GE, CT, FT, GT, IC, ZV, and_assoc, exists_and_left, Option.some.injEq, AObj.cells.injEq, D.int.injEq, D.ptr.injEq, Int.ofNat.injEq, exists_eq_left'] | ((first | refine ZL ?_ ?_ | refine ZC ?_ ?_ | refine ZK ?_ ?_ | refine ZA ?_ ?_ | refine ZB ?_ ?_ | refine Zj ?_ ?_) <;> intro _) | (refine W4 (IC tk l h lp lf dc ds de dt i dep es ts f Q R) (n := f) ?_ ?_) | (refine ⟨_, SlR.nil, ?_⟩) | exact Tp.nil | (show Q _ _; simp only [YM, ZN, if_true, if_false, eq_self, Nat.reduceEqDiff, reduceCtorEq, true_or, or_true, or_self, false_or, or_false, not_true_eq_false, not_false_eq_true, and_true, true_and, and_false, false_and, *] at hk; refine hk _ _ _ (by assumption) (by assumption) ?_ ?_ ?_ ?_ ?_ ?_ ?_ ?_ ?_ ?_ ?_ ?_ ?_) | (show R _ _; simp only [YM, ZD, if_true, if_false, eq_self, Nat.reduceEqDiff, reduceCtorEq, true_or, or_true, or_self, false_or, or_false, not_true_eq_false, not_false_eq_true, and_true, true_and, and_false, false_and, *] at hk; refine hk _ ?_ ?_ ?_) | (show False; simp only [YM, Zu, if_true, if_false, eq_self, Nat.reduceEqDiff, reduceCtorEq, true_or, or_true, or_self, false_or, or_false, not_true_eq_false, not_false_eq_true, and_true, true_and, and_false, false_and, *] at hk) | (refine Yl ?_ ?_ ?_) | (refine ZP ?_ ?_ ?_) | refine And.intro ?_ ?_ | (refine ZX (by assumption) ?_) | exact ZW.refl | (refine ZW.trans (by assumption) (by first | omega | (simp only [Z4, Z3]; omega)) ?_) | exact W5 | exact X6 | exact Y9 | (refine W6 (by assumption) (by assumption) (by first | omega | (simp only [Z4, Z3]; omega)) ?_) | (refine W0 (by assumption) (by assumption) (by first | omega | (simp only [Z4, Z3]; omega)) ?_) | (refine ⟨_, YU, ?_⟩) | (refine ⟨_, by assumption, ?_⟩) | (refine Tp.mono (by assumption) ?_ (fun _ _ _ => ?_)) | assumption | (show ZQ _ _; first | assumption | ((iterate 6 (try refine Zx (by assumption) (by omega) ?_)); first | assumption | exact Zw (by assumption) (by omega) | exact Zv (by assumption) (by assumption) | exact Zf | exact Y5 (by assumption) (by assumption) (by assumption) (by omega) (by assumption))) | (show _ < _; omega) | (show _ ≤ _; omega) | (show (_ : Nat) ≠ _; omega) | (show ¬ (_ : Nat) = _; omega) | (show (_ : Nat) = _; omega) | (intro _; intros) | (exact False.elim (by assumption)) | fail))
  all_goals
    rintro (_ | n) t1 h1 ⟨gn, g0, lt, g3, x, da, gm, j1, gl, de1, dt1, gf, es1, gE, ts1, gY, xs, gI, gsm, gT, gV, gU, w1, w2, w3, w4, w5, w6, w7, w8, w9, wa, wb, wc, wd, w10, we, wf, wg, wh, w11, w12, w13, w14, gnx, gfr, hk⟩
    · simp only [casesS, Zu] at hk
    have hmj := tks.more j1 w12
    have gone := XF gI
    have glen := gI.len
    repeat' (with_reducible (first | refine Zk ?_ | refine Zl ?_ | refine ZG ?_ | refine ZF ?_ | refine Zn ?_ | refine Zd ?_ | refine Zm ?_ | refine ZH ?_ | refine Zy ?_ | refine Zi ?_ | refine Zz ?_ | refine vc77 h77 tks ?_ | refine vc117 h77 h73 h117 tks ?_ | refine vc73 h77 h73 tks ?_ | refine vc74 h77 h78 h74 tks ?_ | refine vc114 h77 h78 h73 h114 tks ?_ | refine vc116 h77 h78 h116 tks ?_ | refine vc78 h77 h78 tks ?_ | refine vc215 h77 h78 h73 h114 h117 h208 h155 h154 h118 h115 h116 h257 h258 h261 h211 h215 tks (f := n) (ihK (g := n) (by omega)) ?_ | refine vc216 h216 tks (tyR_mk (by first | assumption | exact SlR.nil) (by first | assumption | exact SlR.nil)) ?_ | simp (maxSteps := 2000000) (disch := first | assumption | ((try refine Yy (by assumption) ?_); (show ZQ _ _; first | assumption | ((iterate 6 (try refine Zx (by assumption) (by omega) ?_)); first | assumption | exact Zw (by assumption) (by omega) | exact Zv (by assumption) (by assumption) | exact Zf | exact Y5 (by assumption) (by assumption) (by assumption) (by omega) (by assumption)))) | omega | (simp only [Z4, Z3, List.length_cons, List.length_nil, List.length_append, List.length_take, List.length_drop]; omega) | fail) only [go_sem, -Int.reduceOfNat, *, CE, FE, GE, CT, FT, GT, IC, ZV, and_assoc, exists_and_left, Option.some.injEq, AObj.cells.injEq, D.int.injEq, D.ptr.injEq, Int.ofNat.injEq, exists_eq_left', gone, glen] | ((first | refine ZL ?_ ?_ | refine ZC ?_ ?_ | refine ZK ?_ ?_ | refine ZA ?_ ?_ | refine ZB ?_ ?_ | refine Zj ?_ ?_) <;> intro _) | (refine ⟨n, Nat.lt_succ_self n, ?_⟩) | (refine vL_app (F := CaR) (xs := xs) gI (Tp.mono gU ?_ (fun _ _ _ => ?_)) caR_mk ?_ ?_ ?_ ?_ ?_ ?_) | exact ca_same (by assumption) | (show Q _ _; simp only [casesS, ZN, if_true, if_false, eq_self, Nat.reduceEqDiff, reduceCtorEq, true_or, or_true, or_self, false_or, or_false, not_true_eq_false, not_false_eq_true, and_true, true_and, and_false, false_and, *] at hk; refine hk _ _ _ (by assumption) (by assumption) ?_ ?_ ?_ ?_ ?_ ?_ ?_ ?_ ?_ ?_ ?_ ?_ ?_) | (show R _ _; simp only [casesS, ZD, if_true, if_false, eq_self, Nat.reduceEqDiff, reduceCtorEq, true_or, or_true, or_self, false_or, or_false, not_true_eq_false, not_false_eq_true, and_true, true_and, and_false, false_and, *] at hk; refine hk _ ?_ ?_ ?_) | (show False; simp only [casesS, Zu, if_true, if_false, eq_self, Nat.reduceEqDiff, reduceCtorEq, true_or, or_true, or_self, false_or, or_false, not_true_eq_false, not_false_eq_true, and_true, true_and, and_false, false_and, *] at hk) | (refine Yl ?_ ?_ ?_) | (refine ZP ?_ ?_ ?_) | refine And.intro ?_ ?_ | (refine ZX (by assumption) ?_) | exact ZW.refl | (refine ZW.trans (by assumption) (by first | omega | (simp only [Z4, Z3]; omega)) ?_) | exact W5 | exact X6 | exact Y9 | (refine W6 (by assumption) (by assumption) (by first | omega | (simp only [Z4, Z3]; omega)) ?_) | (refine W0 (by assumption) (by assumption) (by first | omega | (simp only [Z4, Z3]; omega)) ?_) | (refine ⟨_, YU, ?_⟩) | (refine ⟨_, by assumption, ?_⟩) | (refine Tp.mono (by assumption) ?_ (fun _ _ _ => ?_)) | assumption | (show ZQ _ _; first | assumption | ((iterate 6 (try refine Zx (by assumption) (by omega) ?_)); first | assumption | exact Zw (by assumption) (by omega) | exact Zv (by assumption) (by assumption) | exact Zf | exact Y5 (by assumption) (by assumption) (by assumption) (by omega) (by assumption))) | (show _ < _; omega) | (show _ ≤ _; omega) | (show (_ : Nat) ≠ _; omega) | (show ¬ (_ : Nat) = _; omega) | (show (_ : Nat) = _; omega) | (intro _; intros) | (exact False.elim (by assumption)) | fail))
  all_goals trace_state
end
section
variable {tk : D} {l : List Tok} {lp : Nat} {h : H} {Q : D → H → Prop} {R : Pan}
theorem vc156_named (h77 : T 78 = q77) (h78 : T 79 = q78) (h73 : T 74 = q73) (h114 : T 115 = q114) (h117 : T 118 = q117) (h208 : T 209 = XJ) (h155 : T 156 = XL) (h154 : T 155 = XX) (h118 : T 119 = W1) (h115 : T 116 = q115) (h116 : T 117 = q116) (h257 : T 258 = q257) (h258 : T 259 = q258) (h261 : T 262 = q261) (h213 : T 214 = q213) (h74 : T 75 = q74) (h214 : T 215 = q214) (h216 : T 217 = q216) (h209 : T 210 = q209) (h210 : T 211 = q210) (h211 : T 212 = q211) (h212 : T 213 = q212) (h215 : T 216 = q215) (h156 : T 157 = q156) (tks : Toks tk l) {f : Nat}
    (ihF : ∀ {h : H} {Q : D → H → Prop} {R : Pan}, CE tk l h lp (fun i dep es => Yt l f 1 i dep es) Q R → VC E T 159 [.ptr lp 0] h Q R)
    (ihK : ∀ {h : H} {Q : D → H → Prop} {R : Pan}, CT tk l h lp 0 (fun i dep es ts => Y8 l f i dep es ts) Q R → VC E T 157 [.ptr lp 0] h Q R)
    (ihC : ∀ {h : H} {Q : D → H → Prop} {R : Pan}, CT tk l h lp 0 (fun i dep es ts => YM l f i dep es ts) Q R → VC E T 218 [.ptr lp 0] h Q R)
    (hp : atP tk l (Zg h.mem lp) lp h.next fun i _ _ => isN (Zp l i))
    (hq : CT tk l h lp 0 (fun i dep es ts => Y8 l (f + 1) i dep es ts) Q R) : VC E T 157 [.ptr lp 0] h Q R := by
  obtain ⟨i, dep, lf, hm, ⟨hi, hn⟩, ⟨n1, n2⟩, dc, ds, de, dt, hf, es, hE, ts, hY, hT, hU, ⟨hl, hl2⟩, ⟨s1, s2, s3, s4⟩, s5, hk⟩ := hq
  have s6 := sepS s5
  have hbd := hT.bnd
  have hbu := hU.bnd
  have hsm := tks.small
  simp only [hm, YS] at hp
  obtain ⟨_, hN⟩ := hp
  have hmk : isK (Zp l i) → i + 1 < l.length := fun h => tks.more i hi (by rcases h with h | h <;> rw [h.1] <;> decide)
  refine Ya h156 ?_
  unfold ZV
  repeat' (with_reducible (first | refine Zk ?_ | refine Zl ?_ | refine ZG ?_ | refine ZF ?_ | refine Zn ?_ | refine Zd ?_ | refine Zm ?_ | refine ZH ?_ | refine Zy ?_ | refine Zi ?_ | refine Zz ?_ | refine vc118 h77 h208 h155 h154 h118 tks ?_ | refine vc210 h77 h78 h73 h114 h117 h208 h155 h154 h118 h115 h116 h257 h258 h261 h213 h74 h210 tks (f := f) ihF ?_ | refine vc209 h77 h78 h73 h114 h117 h208 h155 h154 h118 h115 h116 h257 h258 h261 h213 h214 h216 h209 tks (f := f) ihF (by assumption) ?_ | simp (maxSteps := 2000000) (disch := first | assumption | ((try refine Yy (by assumption) ?_); (show ZQ _ _; first | assumption | ((iterate 6 (try refine Zx (by assumption) (by omega) ?_)); first | assumption | exact Zw (by assumption) (by omega) | exact Zv (by assumption) (by assumption) | exact Zf | exact Y5 (by assumption) (by assumption) (by assumption) (by omega) (by assumption)))) | omega | (simp only [Z4, Z3, List.length_cons, List.length_nil, List.length_append, List.length_take, List.length_drop]; omega) | fail) only [go_sem, -Int.reduceOfNat, *, CE, FE, GE, CT, FT, GT, CR, FR, ZV, true_implies, false_implies, implies_true] | ((first | refine ZL ?_ ?_ | refine ZC ?_ ?_ | refine ZK ?_ ?_ | refine ZA ?_ ?_ | refine ZB ?_ ?_ | refine Zj ?_ ?_) <;> intro _) | (exact hmk (by assumption)) | (show Q _ _; simp only [Y8, ZN, ZD, Zu, if_true, if_false, List.cons.injEq, Nat.reduceLT, Nat.reduceLeDiff, List.length_nil, Bool.false_eq_true, Bool.true_eq_false, eq_self, Nat.reduceEqDiff, reduceCtorEq, true_or, or_true, or_self, false_or, or_false, not_true_eq_false, not_false_eq_true, and_true, true_and, and_false, false_and, *] at hk; refine hk _ _ _ (by assumption) (by assumption) ?_ ?_ ?_ ?_ ?_ ?_ ?_ ?_ ?_ ?_ ?_ ?_ ?_) | (show R _ _; simp only [Y8, ZN, ZD, Zu, if_true, if_false, List.cons.injEq, Nat.reduceLT, Nat.reduceLeDiff, List.length_nil, Bool.false_eq_true, Bool.true_eq_false, eq_self, Nat.reduceEqDiff, reduceCtorEq, true_or, or_true, or_self, false_or, or_false, not_true_eq_false, not_false_eq_true, and_true, true_and, and_false, false_and, *] at hk; refine hk _ ?_ ?_ ?_) | (show False; simp only [Y8, ZN, ZD, Zu, if_true, if_false, List.cons.injEq, Nat.reduceLT, Nat.reduceLeDiff, List.length_nil, Bool.false_eq_true, Bool.true_eq_false, eq_self, Nat.reduceEqDiff, reduceCtorEq, true_or, or_true, or_self, false_or, or_false, not_true_eq_false, not_false_eq_true, and_true, true_and, and_false, false_and, *] at hk) | (refine Yl ?_ ?_ ?_) | (refine ZP ?_ ?_ ?_) | refine And.intro ?_ ?_ | (refine ZX (by assumption) ?_) | exact ZW.refl | (refine ZW.trans (by assumption) (by first | omega | (simp only [Z4, Z3]; omega)) ?_) | exact W5 | exact X6 | exact Y9 | (refine W6 (by assumption) (by assumption) (by first | omega | (simp only [Z4, Z3]; omega)) ?_) | (refine W0 (by assumption) (by assumption) (by first | omega | (simp only [Z4, Z3]; omega)) ?_) | (refine ⟨_, YU, ?_⟩) | (refine ⟨_, by assumption, ?_⟩) | (refine Tp.mono (by assumption) ?_ (fun _ _ _ => ?_)) | assumption | (show ZQ _ _; first | assumption | ((iterate 6 (try refine Zx (by assumption) (by omega) ?_)); first | assumption | exact Zw (by assumption) (by omega) | exact Zv (by assumption) (by assumption) | exact Zf | exact Y5 (by assumption) (by assumption) (by assumption) (by omega) (by assumption))) | (show _ < _; omega) | (show _ ≤ _; omega) | (show (_ : Nat) ≠ _; omega) | (show ¬ (_ : Nat) = _; omega) | (show (_ : Nat) = _; omega) | (intro _; intros) | (exact False.elim (by assumption)) | fail))
  all_goals trace_state
end
section
variable {tk : D} {l : List Tok} {lp : Nat} {h : H} {Q : D → H → Prop} {R : Pan}
theorem vc156_bad (h77 : T 78 = q77) (h78 : T 79 = q78) (h73 : T 74 = q73) (h114 : T 115 = q114) (h117 : T 118 = q117) (h208 : T 209 = XJ) (h155 : T 156 = XL) (h154 : T 155 = XX) (h118 : T 119 = W1) (h115 : T 116 = q115) (h116 : T 117 = q116) (h257 : T 258 = q257) (h258 : T 259 = q258) (h261 : T 262 = q261) (h213 : T 214 = q213) (h74 : T 75 = q74) (h214 : T 215 = q214) (h216 : T 217 = q216) (h209 : T 210 = q209) (h210 : T 211 = q210) (h211 : T 212 = q211) (h212 : T 213 = q212) (h215 : T 216 = q215) (h156 : T 157 = q156) (tks : Toks tk l) {f : Nat}
    (ihF : ∀ {h : H} {Q : D → H → Prop} {R : Pan}, CE tk l h lp (fun i dep es => Yt l f 1 i dep es) Q R → VC E T 159 [.ptr lp 0] h Q R)
    (ihK : ∀ {h : H} {Q : D → H → Prop} {R : Pan}, CT tk l h lp 0 (fun i dep es ts => Y8 l f i dep es ts) Q R → VC E T 157 [.ptr lp 0] h Q R)
    (ihC : ∀ {h : H} {Q : D → H → Prop} {R : Pan}, CT tk l h lp 0 (fun i dep es ts => YM l f i dep es ts) Q R → VC E T 218 [.ptr lp 0] h Q R)
    (hp : atP tk l (Zg h.mem lp) lp h.next fun i _ _ => ¬ isN (Zp l i) ∧ ¬ isK (Zp l i))
    (hq : CT tk l h lp 0 (fun i dep es ts => Y8 l (f + 1) i dep es ts) Q R) : VC E T 157 [.ptr lp 0] h Q R := by
  obtain ⟨i, dep, lf, hm, ⟨hi, hn⟩, ⟨n1, n2⟩, dc, ds, de, dt, hf, es, hE, ts, hY, hT, hU, ⟨hl, hl2⟩, ⟨s1, s2, s3, s4⟩, s5, hk⟩ := hq
  have s6 := sepS s5
  have hbd := hT.bnd
  have hbu := hU.bnd
  have hsm := tks.small
  simp only [hm, YS] at hp
  obtain ⟨_, hN, hK⟩ := hp
  have hmk : isK (Zp l i) → i + 1 < l.length := fun h => tks.more i hi (by rcases h with h | h <;> rw [h.1] <;> decide)
  refine Ya h156 ?_
  unfold ZV
  repeat' (with_reducible (first | refine Zk ?_ | refine Zl ?_ | refine ZG ?_ | refine ZF ?_ | refine Zn ?_ | refine Zd ?_ | refine Zm ?_ | refine ZH ?_ | refine Zy ?_ | refine Zi ?_ | refine Zz ?_ | refine vc118 h77 h208 h155 h154 h118 tks ?_ | refine vc211 h77 h208 h155 h154 h118 h211 tks ?_ | refine vc78 h77 h78 tks ?_ | simp (maxSteps := 2000000) (disch := first | assumption | omega | fail) only [go_sem, -Int.reduceOfNat, *, CE, FE, GE, CT, FT, GT, CR, FR, ZV, true_implies, false_implies, implies_true] | ((first | refine ZL ?_ ?_ | refine ZC ?_ ?_ | refine ZK ?_ ?_ | refine ZA ?_ ?_ | refine ZB ?_ ?_ | refine Zj ?_ ?_) <;> intro _) | (exact hmk (by assumption)) | (show Q _ _; simp only [Y8, ZN, ZD, Zu, if_true, if_false, List.cons.injEq, Nat.reduceLT, Nat.reduceLeDiff, List.length_nil, Bool.false_eq_true, Bool.true_eq_false, eq_self, Nat.reduceEqDiff, reduceCtorEq, true_or, or_true, or_self, false_or, or_false, not_true_eq_false, not_false_eq_true, and_true, true_and, and_false, false_and, *] at hk; refine hk _ _ _ (by assumption) (by assumption) ?_ ?_ ?_ ?_ ?_ ?_ ?_ ?_ ?_ ?_ ?_ ?_ ?_) | (show R _ _; simp only [Y8, ZN, ZD, Zu, if_true, if_false, List.cons.injEq, Nat.reduceLT, Nat.reduceLeDiff, List.length_nil, Bool.false_eq_true, Bool.true_eq_false, eq_self, Nat.reduceEqDiff, reduceCtorEq, true_or, or_true, or_self, false_or, or_false, not_true_eq_false, not_false_eq_true, and_true, true_and, and_false, false_and, *] at hk; refine hk _ ?_ ?_ ?_) | (show False; simp only [Y8, ZN, ZD, Zu, if_true, if_false, List.cons.injEq, Nat.reduceLT, Nat.reduceLeDiff, List.length_nil, Bool.false_eq_true, Bool.true_eq_false, eq_self, Nat.reduceEqDiff, reduceCtorEq, true_or, or_true, or_self, false_or, or_false, not_true_eq_false, not_false_eq_true, and_true, true_and, and_false, false_and, *] at hk) | (refine Yl ?_ ?_ ?_) | (refine ZP ?_ ?_ ?_) | refine And.intro ?_ ?_ | (refine ZX (by assumption) ?_) | exact ZW.refl | (refine ZW.trans (by assumption) (by first | omega | (simp only [Z4, Z3]; omega)) ?_) | exact W5 | exact X6 | exact Y9 | (refine W6 (by assumption) (by assumption) (by first | omega | (simp only [Z4, Z3]; omega)) ?_) | (refine W0 (by assumption) (by assumption) (by first | omega | (simp only [Z4, Z3]; omega)) ?_) | (refine ⟨_, YU, ?_⟩) | (refine ⟨_, by assumption, ?_⟩) | (refine Tp.mono (by assumption) ?_ (fun _ _ _ => ?_)) | assumption | (show _ < _; omega) | (show _ ≤ _; omega) | (show (_ : Nat) ≠ _; omega) | (show ¬ (_ : Nat) = _; omega) | (show (_ : Nat) = _; omega) | (intro _; intros) | (exact False.elim (by assumption)) | fail))
  all_goals trace_state
end
section
variable {tk : D} {l : List Tok} {lp : Nat} {h : H} {Q : D → H → Prop} {R : Pan}
theorem vc156_sizA (h77 : T 78 = q77) (h78 : T 79 = q78) (h73 : T 74 = q73) (h114 : T 115 = q114) (h117 : T 118 = q117) (h208 : T 209 = XJ) (h155 : T 156 = XL) (h154 : T 155 = XX) (h118 : T 119 = W1) (h115 : T 116 = q115) (h116 : T 117 = q116) (h257 : T 258 = q257) (h258 : T 259 = q258) (h261 : T 262 = q261) (h213 : T 214 = q213) (h74 : T 75 = q74) (h214 : T 215 = q214) (h216 : T 217 = q216) (h209 : T 210 = q209) (h210 : T 211 = q210) (h211 : T 212 = q211) (h212 : T 213 = q212) (h215 : T 216 = q215) (h156 : T 157 = q156) (tks : Toks tk l) {f : Nat}
    (ihF : ∀ {h : H} {Q : D → H → Prop} {R : Pan}, CE tk l h lp (fun i dep es => Yt l f 1 i dep es) Q R → VC E T 159 [.ptr lp 0] h Q R)
    (ihK : ∀ {h : H} {Q : D → H → Prop} {R : Pan}, CT tk l h lp 0 (fun i dep es ts => Y8 l f i dep es ts) Q R → VC E T 157 [.ptr lp 0] h Q R)
    (ihC : ∀ {h : H} {Q : D → H → Prop} {R : Pan}, CT tk l h lp 0 (fun i dep es ts => YM l f i dep es ts) Q R → VC E T 218 [.ptr lp 0] h Q R)
    (hp : atP tk l (Zg h.mem lp) lp h.next fun i _ _ => ¬ isN (Zp l i) ∧ isK (Zp l i) ∧ (Ys (Zp l i).s).2 = true ∧ ((Ys (Zp l i).s).1 = 7 ∨ (Ys (Zp l i).s).1 = 8))
    (hq : CT tk l h lp 0 (fun i dep es ts => Y8 l (f + 1) i dep es ts) Q R) : VC E T 157 [.ptr lp 0] h Q R := by
  obtain ⟨i, dep, lf, hm, ⟨hi, hn⟩, ⟨n1, n2⟩, dc, ds, de, dt, hf, es, hE, ts, hY, hT, hU, ⟨hl, hl2⟩, ⟨s1, s2, s3, s4⟩, s5, hk⟩ := hq
  have s6 := sepS s5
  have hbd := hT.bnd
  have hbu := hU.bnd
  have hsm := tks.small
  simp only [hm, YS] at hp
  obtain ⟨_, hN, hK, hz, hz7⟩ := hp
  have hmk : isK (Zp l i) → i + 1 < l.length := fun h => tks.more i hi (by rcases h with h | h <;> rw [h.1] <;> decide)
  refine Ya h156 ?_
  unfold ZV
  rcases hz7 with hz7 | hz7
  all_goals repeat' (with_reducible (first | refine Zk ?_ | refine Zl ?_ | refine ZG ?_ | refine ZF ?_ | refine Zn ?_ | refine Zd ?_ | refine Zm ?_ | refine ZH ?_ | refine Zy ?_ | refine Zi ?_ | refine Zz ?_ | refine vc118 h77 h208 h155 h154 h118 tks ?_ | refine vc211 h77 h208 h155 h154 h118 h211 tks ?_ | refine vc77 h77 tks ?_ | refine vc212 h212 ⟨?_, ?_⟩ | refine Ya h213 ?_ | refine vc214 h77 h78 h73 h114 h117 h208 h155 h154 h118 h115 h116 h257 h258 h261 h214 tks (f := f) ihF ?_ | refine vc215 h77 h78 h73 h114 h117 h208 h155 h154 h118 h115 h116 h257 h258 h261 h211 h215 tks (f := f) ihK ?_ | refine vc216 h216 tks (tyR_mk SlR.nil SlR.nil) ?_ | refine ihC ?_ | simp (maxSteps := 2000000) (disch := first | assumption | ((try refine Yy (by assumption) ?_); (show ZQ _ _; first | assumption | ((iterate 6 (try refine Zx (by assumption) (by omega) ?_)); first | assumption | exact Zw (by assumption) (by omega) | exact Zv (by assumption) (by assumption) | exact Zf | exact Y5 (by assumption) (by assumption) (by assumption) (by omega) (by assumption)))) | omega | (simp only [Z4, Z3, List.length_cons, List.length_nil, List.length_append, List.length_take, List.length_drop]; omega) | fail) only [go_sem, -Int.reduceOfNat, *, CE, FE, GE, CT, FT, GT, CR, FR, ZV, true_implies, false_implies, implies_true] | ((first | refine ZL ?_ ?_ | refine ZC ?_ ?_ | refine ZK ?_ ?_ | refine ZA ?_ ?_ | refine ZB ?_ ?_ | refine Zj ?_ ?_) <;> intro _) | (exact hmk (by assumption)) | (show Q _ _; simp only [Y8, ZN, ZD, Zu, if_true, if_false, List.cons.injEq, Nat.reduceLT, Nat.reduceLeDiff, List.length_nil, Bool.false_eq_true, Bool.true_eq_false, eq_self, Nat.reduceEqDiff, reduceCtorEq, true_or, or_true, or_self, false_or, or_false, not_true_eq_false, not_false_eq_true, and_true, true_and, and_false, false_and, *] at hk; refine hk _ _ _ (by assumption) (by assumption) ?_ ?_ ?_ ?_ ?_ ?_ ?_ ?_ ?_ ?_ ?_ ?_ ?_) | (show R _ _; simp only [Y8, ZN, ZD, Zu, if_true, if_false, List.cons.injEq, Nat.reduceLT, Nat.reduceLeDiff, List.length_nil, Bool.false_eq_true, Bool.true_eq_false, eq_self, Nat.reduceEqDiff, reduceCtorEq, true_or, or_true, or_self, false_or, or_false, not_true_eq_false, not_false_eq_true, and_true, true_and, and_false, false_and, *] at hk; refine hk _ ?_ ?_ ?_) | (show False; simp only [Y8, ZN, ZD, Zu, if_true, if_false, List.cons.injEq, Nat.reduceLT, Nat.reduceLeDiff, List.length_nil, Bool.false_eq_true, Bool.true_eq_false, eq_self, Nat.reduceEqDiff, reduceCtorEq, true_or, or_true, or_self, false_or, or_false, not_true_eq_false, not_false_eq_true, and_true, true_and, and_false, false_and, *] at hk) | (refine Yl ?_ ?_ ?_) | (refine ZP ?_ ?_ ?_) | refine And.intro ?_ ?_ | (refine ZX (by assumption) ?_) | exact ZW.refl | (refine ZW.trans (by assumption) (by first | omega | (simp only [Z4, Z3]; omega)) ?_) | exact W5 | exact X6 | exact Y9 | (refine W6 (by assumption) (by assumption) (by first | omega | (simp only [Z4, Z3]; omega)) ?_) | (refine W0 (by assumption) (by assumption) (by first | omega | (simp only [Z4, Z3]; omega)) ?_) | (refine ⟨_, YU, ?_⟩) | (refine ⟨_, by assumption, ?_⟩) | (refine Tp.mono (by assumption) ?_ (fun _ _ _ => ?_)) | assumption | (show ZQ _ _; first | assumption | ((iterate 6 (try refine Zx (by assumption) (by omega) ?_)); first | assumption | exact Zw (by assumption) (by omega) | exact Zv (by assumption) (by assumption) | exact Zf | exact Y5 (by assumption) (by assumption) (by assumption) (by omega) (by assumption))) | (show _ < _; omega) | (show _ ≤ _; omega) | (show (_ : Nat) ≠ _; omega) | (show ¬ (_ : Nat) = _; omega) | (show (_ : Nat) = _; omega) | (intro _; intros) | (exact False.elim (by assumption)) | fail))
  all_goals trace_state
end
section
variable {tk : D} {l : List Tok} {lp : Nat} {h : H} {Q : D → H → Prop} {R : Pan}
theorem vc156_sizB (h77 : T 78 = q77) (h78 : T 79 = q78) (h73 : T 74 = q73) (h114 : T 115 = q114) (h117 : T 118 = q117) (h208 : T 209 = XJ) (h155 : T 156 = XL) (h154 : T 155 = XX) (h118 : T 119 = W1) (h115 : T 116 = q115) (h116 : T 117 = q116) (h257 : T 258 = q257) (h258 : T 259 = q258) (h261 : T 262 = q261) (h213 : T 214 = q213) (h74 : T 75 = q74) (h214 : T 215 = q214) (h216 : T 217 = q216) (h209 : T 210 = q209) (h210 : T 211 = q210) (h211 : T 212 = q211) (h212 : T 213 = q212) (h215 : T 216 = q215) (h156 : T 157 = q156) (tks : Toks tk l) {f : Nat}
    (ihF : ∀ {h : H} {Q : D → H → Prop} {R : Pan}, CE tk l h lp (fun i dep es => Yt l f 1 i dep es) Q R → VC E T 159 [.ptr lp 0] h Q R)
    (ihK : ∀ {h : H} {Q : D → H → Prop} {R : Pan}, CT tk l h lp 0 (fun i dep es ts => Y8 l f i dep es ts) Q R → VC E T 157 [.ptr lp 0] h Q R)
    (ihC : ∀ {h : H} {Q : D → H → Prop} {R : Pan}, CT tk l h lp 0 (fun i dep es ts => YM l f i dep es ts) Q R → VC E T 218 [.ptr lp 0] h Q R)
    (hp : atP tk l (Zg h.mem lp) lp h.next fun i _ _ => ¬ isN (Zp l i) ∧ isK (Zp l i) ∧ (Ys (Zp l i).s).2 = true ∧ (Ys (Zp l i).s).1 ≠ 7 ∧ (Ys (Zp l i).s).1 ≠ 8)
    (hq : CT tk l h lp 0 (fun i dep es ts => Y8 l (f + 1) i dep es ts) Q R) : VC E T 157 [.ptr lp 0] h Q R := by
  obtain ⟨i, dep, lf, hm, ⟨hi, hn⟩, ⟨n1, n2⟩, dc, ds, de, dt, hf, es, hE, ts, hY, hT, hU, ⟨hl, hl2⟩, ⟨s1, s2, s3, s4⟩, s5, hk⟩ := hq
  have s6 := sepS s5
  have hbd := hT.bnd
  have hbu := hU.bnd
  have hsm := tks.small
  simp only [hm, YS] at hp
  obtain ⟨_, hN, hK, hz, hz7, hz8⟩ := hp
  have hmk : isK (Zp l i) → i + 1 < l.length := fun h => tks.more i hi (by rcases h with h | h <;> rw [h.1] <;> decide)
  refine Ya h156 ?_
  unfold ZV
  repeat' (with_reducible (first | refine Zk ?_ | refine Zl ?_ | refine ZG ?_ | refine ZF ?_ | refine Zn ?_ | refine Zd ?_ | refine Zm ?_ | refine ZH ?_ | refine Zy ?_ | refine Zi ?_ | refine Zz ?_ | refine vc118 h77 h208 h155 h154 h118 tks ?_ | refine vc211 h77 h208 h155 h154 h118 h211 tks ?_ | refine vc77 h77 tks ?_ | refine vc212 h212 ⟨?_, ?_⟩ | refine Ya h213 ?_ | refine vc214 h77 h78 h73 h114 h117 h208 h155 h154 h118 h115 h116 h257 h258 h261 h214 tks (f := f) ihF ?_ | refine vc215 h77 h78 h73 h114 h117 h208 h155 h154 h118 h115 h116 h257 h258 h261 h211 h215 tks (f := f) ihK ?_ | refine vc216 h216 tks (tyR_mk SlR.nil SlR.nil) ?_ | refine ihC ?_ | simp (maxSteps := 2000000) (disch := first | assumption | ((try refine Yy (by assumption) ?_); (show ZQ _ _; first | assumption | ((iterate 6 (try refine Zx (by assumption) (by omega) ?_)); first | assumption | exact Zw (by assumption) (by omega) | exact Zv (by assumption) (by assumption) | exact Zf | exact Y5 (by assumption) (by assumption) (by assumption) (by omega) (by assumption)))) | omega | (simp only [Z4, Z3, List.length_cons, List.length_nil, List.length_append, List.length_take, List.length_drop]; omega) | fail) only [go_sem, -Int.reduceOfNat, *, CE, FE, GE, CT, FT, GT, CR, FR, ZV, true_implies, false_implies, implies_true] | ((first | refine ZL ?_ ?_ | refine ZC ?_ ?_ | refine ZK ?_ ?_ | refine ZA ?_ ?_ | refine ZB ?_ ?_ | refine Zj ?_ ?_) <;> intro _) | (exact hmk (by assumption)) | (show Q _ _; simp only [Y8, ZN, ZD, Zu, if_true, if_false, List.cons.injEq, Nat.reduceLT, Nat.reduceLeDiff, List.length_nil, Bool.false_eq_true, Bool.true_eq_false, eq_self, Nat.reduceEqDiff, reduceCtorEq, true_or, or_true, or_self, false_or, or_false, not_true_eq_false, not_false_eq_true, and_true, true_and, and_false, false_and, *] at hk; refine hk _ _ _ (by assumption) (by assumption) ?_ ?_ ?_ ?_ ?_ ?_ ?_ ?_ ?_ ?_ ?_ ?_ ?_) | (show R _ _; simp only [Y8, ZN, ZD, Zu, if_true, if_false, List.cons.injEq, Nat.reduceLT, Nat.reduceLeDiff, List.length_nil, Bool.false_eq_true, Bool.true_eq_false, eq_self, Nat.reduceEqDiff, reduceCtorEq, true_or, or_true, or_self, false_or, or_false, not_true_eq_false, not_false_eq_true, and_true, true_and, and_false, false_and, *] at hk; refine hk _ ?_ ?_ ?_) | (show False; simp only [Y8, ZN, ZD, Zu, if_true, if_false, List.cons.injEq, Nat.reduceLT, Nat.reduceLeDiff, List.length_nil, Bool.false_eq_true, Bool.true_eq_false, eq_self, Nat.reduceEqDiff, reduceCtorEq, true_or, or_true, or_self, false_or, or_false, not_true_eq_false, not_false_eq_true, and_true, true_and, and_false, false_and, *] at hk) | (refine Yl ?_ ?_ ?_) | (refine ZP ?_ ?_ ?_) | refine And.intro ?_ ?_ | (refine ZX (by assumption) ?_) | exact ZW.refl | (refine ZW.trans (by assumption) (by first | omega | (simp only [Z4, Z3]; omega)) ?_) | exact W5 | exact X6 | exact Y9 | (refine W6 (by assumption) (by assumption) (by first | omega | (simp only [Z4, Z3]; omega)) ?_) | (refine W0 (by assumption) (by assumption) (by first | omega | (simp only [Z4, Z3]; omega)) ?_) | (refine ⟨_, YU, ?_⟩) | (refine ⟨_, by assumption, ?_⟩) | (refine Tp.mono (by assumption) ?_ (fun _ _ _ => ?_)) | assumption | (show ZQ _ _; first | assumption | ((iterate 6 (try refine Zx (by assumption) (by omega) ?_)); first | assumption | exact Zw (by assumption) (by omega) | exact Zv (by assumption) (by assumption) | exact Zf | exact Y5 (by assumption) (by assumption) (by assumption) (by omega) (by assumption))) | (show _ < _; omega) | (show _ ≤ _; omega) | (show (_ : Nat) ≠ _; omega) | (show ¬ (_ : Nat) = _; omega) | (show (_ : Nat) = _; omega) | (intro _; intros) | (exact False.elim (by assumption)) | fail))
  all_goals trace_state
end
section
variable {tk : D} {l : List Tok} {lp : Nat} {h : H} {Q : D → H → Prop} {R : Pan}
theorem sizedW_rest : Ys [114, 101, 115, 116] = (0, false) := by simp [Ys]
theorem vc156_rest (h77 : T 78 = q77) (h78 : T 79 = q78) (h73 : T 74 = q73) (h114 : T 115 = q114) (h117 : T 118 = q117) (h208 : T 209 = XJ) (h155 : T 156 = XL) (h154 : T 155 = XX) (h118 : T 119 = W1) (h115 : T 116 = q115) (h116 : T 117 = q116) (h257 : T 258 = q257) (h258 : T 259 = q258) (h261 : T 262 = q261) (h213 : T 214 = q213) (h74 : T 75 = q74) (h214 : T 215 = q214) (h216 : T 217 = q216) (h209 : T 210 = q209) (h210 : T 211 = q210) (h211 : T 212 = q211) (h212 : T 213 = q212) (h215 : T 216 = q215) (h156 : T 157 = q156) (tks : Toks tk l) {f : Nat}
    (ihF : ∀ {h : H} {Q : D → H → Prop} {R : Pan}, CE tk l h lp (fun i dep es => Yt l f 1 i dep es) Q R → VC E T 159 [.ptr lp 0] h Q R)
    (ihK : ∀ {h : H} {Q : D → H → Prop} {R : Pan}, CT tk l h lp 0 (fun i dep es ts => Y8 l f i dep es ts) Q R → VC E T 157 [.ptr lp 0] h Q R)
    (ihC : ∀ {h : H} {Q : D → H → Prop} {R : Pan}, CT tk l h lp 0 (fun i dep es ts => YM l f i dep es ts) Q R → VC E T 218 [.ptr lp 0] h Q R)
    (hp : atP tk l (Zg h.mem lp) lp h.next fun i _ _ => ¬ isN (Zp l i) ∧ isK (Zp l i) ∧ (Zp l i).s = [114, 101, 115, 116])
    (hq : CT tk l h lp 0 (fun i dep es ts => Y8 l (f + 1) i dep es ts) Q R) : VC E T 157 [.ptr lp 0] h Q R := by
  obtain ⟨i, dep, lf, hm, ⟨hi, hn⟩, ⟨n1, n2⟩, dc, ds, de, dt, hf, es, hE, ts, hY, hT, hU, ⟨hl, hl2⟩, ⟨s1, s2, s3, s4⟩, s5, hk⟩ := hq
  have s6 := sepS s5
  have hbd := hT.bnd
  have hbu := hU.bnd
  have hsm := tks.small
  simp only [hm, YS] at hp
  obtain ⟨_, hN, hK, hw⟩ := hp
  have hmk : isK (Zp l i) → i + 1 < l.length := fun h => tks.more i hi (by rcases h with h | h <;> rw [h.1] <;> decide)
  refine Ya h156 ?_
  unfold ZV
  repeat' (with_reducible (first | refine Zk ?_ | refine Zl ?_ | refine ZG ?_ | refine ZF ?_ | refine Zn ?_ | refine Zd ?_ | refine Zm ?_ | refine ZH ?_ | refine Zy ?_ | refine Zi ?_ | refine Zz ?_ | refine vc118 h77 h208 h155 h154 h118 tks ?_ | refine vc211 h77 h208 h155 h154 h118 h211 tks ?_ | refine vc77 h77 tks ?_ | refine vc212 h212 ⟨?_, ?_⟩ | refine Ya h213 ?_ | refine vc214 h77 h78 h73 h114 h117 h208 h155 h154 h118 h115 h116 h257 h258 h261 h214 tks (f := f) ihF ?_ | refine vc215 h77 h78 h73 h114 h117 h208 h155 h154 h118 h115 h116 h257 h258 h261 h211 h215 tks (f := f) ihK ?_ | refine vc216 h216 tks (tyR_mk SlR.nil SlR.nil) ?_ | refine ihC ?_ | simp (maxSteps := 2000000) (disch := first | assumption | ((try refine Yy (by assumption) ?_); (show ZQ _ _; first | assumption | ((iterate 6 (try refine Zx (by assumption) (by omega) ?_)); first | assumption | exact Zw (by assumption) (by omega) | exact Zv (by assumption) (by assumption) | exact Zf | exact Y5 (by assumption) (by assumption) (by assumption) (by omega) (by assumption)))) | omega | (simp only [Z4, Z3, List.length_cons, List.length_nil, List.length_append, List.length_take, List.length_drop]; omega) | fail) only [go_sem, -Int.reduceOfNat, *, CE, FE, GE, CT, FT, GT, CR, FR, ZV, true_implies, false_implies, implies_true, sizedW_rest] | ((first | refine ZL ?_ ?_ | refine ZC ?_ ?_ | refine ZK ?_ ?_ | refine ZA ?_ ?_ | refine ZB ?_ ?_ | refine Zj ?_ ?_) <;> intro _) | (exact hmk (by assumption)) | (show Q _ _; simp only [Y8, sizedW_rest, ZN, ZD, Zu, if_true, if_false, List.cons.injEq, Nat.reduceLT, Nat.reduceLeDiff, List.length_nil, Bool.false_eq_true, Bool.true_eq_false, eq_self, Nat.reduceEqDiff, reduceCtorEq, true_or, or_true, or_self, false_or, or_false, not_true_eq_false, not_false_eq_true, and_true, true_and, and_false, false_and, *] at hk; refine hk _ _ _ (by assumption) (by assumption) ?_ ?_ ?_ ?_ ?_ ?_ ?_ ?_ ?_ ?_ ?_ ?_ ?_) | (show R _ _; simp only [Y8, sizedW_rest, ZN, ZD, Zu, if_true, if_false, List.cons.injEq, Nat.reduceLT, Nat.reduceLeDiff, List.length_nil, Bool.false_eq_true, Bool.true_eq_false, eq_self, Nat.reduceEqDiff, reduceCtorEq, true_or, or_true, or_self, false_or, or_false, not_true_eq_false, not_false_eq_true, and_true, true_and, and_false, false_and, *] at hk; refine hk _ ?_ ?_ ?_) | (show False; simp only [Y8, sizedW_rest, ZN, ZD, Zu, if_true, if_false, List.cons.injEq, Nat.reduceLT, Nat.reduceLeDiff, List.length_nil, Bool.false_eq_true, Bool.true_eq_false, eq_self, Nat.reduceEqDiff, reduceCtorEq, true_or, or_true, or_self, false_or, or_false, not_true_eq_false, not_false_eq_true, and_true, true_and, and_false, false_and, *] at hk) | (refine Yl ?_ ?_ ?_) | (refine ZP ?_ ?_ ?_) | refine And.intro ?_ ?_ | (refine ZX (by assumption) ?_) | exact ZW.refl | (refine ZW.trans (by assumption) (by first | omega | (simp only [Z4, Z3]; omega)) ?_) | exact W5 | exact X6 | exact Y9 | (refine W6 (by assumption) (by assumption) (by first | omega | (simp only [Z4, Z3]; omega)) ?_) | (refine W0 (by assumption) (by assumption) (by first | omega | (simp only [Z4, Z3]; omega)) ?_) | (refine ⟨_, YU, ?_⟩) | (refine ⟨_, by assumption, ?_⟩) | (refine Tp.mono (by assumption) ?_ (fun _ _ _ => ?_)) | assumption | (show ZQ _ _; first | assumption | ((iterate 6 (try refine Zx (by assumption) (by omega) ?_)); first | assumption | exact Zw (by assumption) (by omega) | exact Zv (by assumption) (by assumption) | exact Zf | exact Y5 (by assumption) (by assumption) (by assumption) (by omega) (by assumption))) | (show _ < _; omega) | (show _ ≤ _; omega) | (show (_ : Nat) ≠ _; omega) | (show ¬ (_ : Nat) = _; omega) | (show (_ : Nat) = _; omega) | (intro _; intros) | (exact False.elim (by assumption)) | fail))
  all_goals trace_state
end
section
variable {tk : D} {l : List Tok} {lp : Nat} {h : H} {Q : D → H → Prop} {R : Pan}
theorem sizedW_tail : Ys [116, 97, 105, 108] = (0, false) := by simp [Ys]
theorem vc156_tail (h77 : T 78 = q77) (h78 : T 79 = q78) (h73 : T 74 = q73) (h114 : T 115 = q114) (h117 : T 118 = q117) (h208 : T 209 = XJ) (h155 : T 156 = XL) (h154 : T 155 = XX) (h118 : T 119 = W1) (h115 : T 116 = q115) (h116 : T 117 = q116) (h257 : T 258 = q257) (h258 : T 259 = q258) (h261 : T 262 = q261) (h213 : T 214 = q213) (h74 : T 75 = q74) (h214 : T 215 = q214) (h216 : T 217 = q216) (h209 : T 210 = q209) (h210 : T 211 = q210) (h211 : T 212 = q211) (h212 : T 213 = q212) (h215 : T 216 = q215) (h156 : T 157 = q156) (tks : Toks tk l) {f : Nat}
    (ihF : ∀ {h : H} {Q : D → H → Prop} {R : Pan}, CE tk l h lp (fun i dep es => Yt l f 1 i dep es) Q R → VC E T 159 [.ptr lp 0] h Q R)
    (ihK : ∀ {h : H} {Q : D → H → Prop} {R : Pan}, CT tk l h lp 0 (fun i dep es ts => Y8 l f i dep es ts) Q R → VC E T 157 [.ptr lp 0] h Q R)
    (ihC : ∀ {h : H} {Q : D → H → Prop} {R : Pan}, CT tk l h lp 0 (fun i dep es ts => YM l f i dep es ts) Q R → VC E T 218 [.ptr lp 0] h Q R)
    (hp : atP tk l (Zg h.mem lp) lp h.next fun i _ _ => ¬ isN (Zp l i) ∧ isK (Zp l i) ∧ (Zp l i).s = [116, 97, 105, 108])
    (hq : CT tk l h lp 0 (fun i dep es ts => Y8 l (f + 1) i dep es ts) Q R) : VC E T 157 [.ptr lp 0] h Q R := by
  obtain ⟨i, dep, lf, hm, ⟨hi, hn⟩, ⟨n1, n2⟩, dc, ds, de, dt, hf, es, hE, ts, hY, hT, hU, ⟨hl, hl2⟩, ⟨s1, s2, s3, s4⟩, s5, hk⟩ := hq
  have s6 := sepS s5
  have hbd := hT.bnd
  have hbu := hU.bnd
  have hsm := tks.small
  simp only [hm, YS] at hp
  obtain ⟨_, hN, hK, hw⟩ := hp
  have hmk : isK (Zp l i) → i + 1 < l.length := fun h => tks.more i hi (by rcases h with h | h <;> rw [h.1] <;> decide)
  refine Ya h156 ?_
  unfold ZV
  repeat' (with_reducible (first | refine Zk ?_ | refine Zl ?_ | refine ZG ?_ | refine ZF ?_ | refine Zn ?_ | refine Zd ?_ | refine Zm ?_ | refine ZH ?_ | refine Zy ?_ | refine Zi ?_ | refine Zz ?_ | refine vc118 h77 h208 h155 h154 h118 tks ?_ | refine vc211 h77 h208 h155 h154 h118 h211 tks ?_ | refine vc77 h77 tks ?_ | refine vc212 h212 ⟨?_, ?_⟩ | refine Ya h213 ?_ | refine vc214 h77 h78 h73 h114 h117 h208 h155 h154 h118 h115 h116 h257 h258 h261 h214 tks (f := f) ihF ?_ | refine vc215 h77 h78 h73 h114 h117 h208 h155 h154 h118 h115 h116 h257 h258 h261 h211 h215 tks (f := f) ihK ?_ | refine vc216 h216 tks (tyR_mk SlR.nil SlR.nil) ?_ | refine ihC ?_ | simp (maxSteps := 2000000) (disch := first | assumption | ((try refine Yy (by assumption) ?_); (show ZQ _ _; first | assumption | ((iterate 6 (try refine Zx (by assumption) (by omega) ?_)); first | assumption | exact Zw (by assumption) (by omega) | exact Zv (by assumption) (by assumption) | exact Zf | exact Y5 (by assumption) (by assumption) (by assumption) (by omega) (by assumption)))) | omega | (simp only [Z4, Z3, List.length_cons, List.length_nil, List.length_append, List.length_take, List.length_drop]; omega) | fail) only [go_sem, -Int.reduceOfNat, *, CE, FE, GE, CT, FT, GT, CR, FR, ZV, true_implies, false_implies, implies_true, sizedW_tail] | ((first | refine ZL ?_ ?_ | refine ZC ?_ ?_ | refine ZK ?_ ?_ | refine ZA ?_ ?_ | refine ZB ?_ ?_ | refine Zj ?_ ?_) <;> intro _) | (exact hmk (by assumption)) | (show Q _ _; simp only [Y8, sizedW_tail, ZN, ZD, Zu, if_true, if_false, List.cons.injEq, Nat.reduceLT, Nat.reduceLeDiff, List.length_nil, Bool.false_eq_true, Bool.true_eq_false, eq_self, Nat.reduceEqDiff, reduceCtorEq, true_or, or_true, or_self, false_or, or_false, not_true_eq_false, not_false_eq_true, and_true, true_and, and_false, false_and, *] at hk; refine hk _ _ _ (by assumption) (by assumption) ?_ ?_ ?_ ?_ ?_ ?_ ?_ ?_ ?_ ?_ ?_ ?_ ?_) | (show R _ _; simp only [Y8, sizedW_tail, ZN, ZD, Zu, if_true, if_false, List.cons.injEq, Nat.reduceLT, Nat.reduceLeDiff, List.length_nil, Bool.false_eq_true, Bool.true_eq_false, eq_self, Nat.reduceEqDiff, reduceCtorEq, true_or, or_true, or_self, false_or, or_false, not_true_eq_false, not_false_eq_true, and_true, true_and, and_false, false_and, *] at hk; refine hk _ ?_ ?_ ?_) | (show False; simp only [Y8, sizedW_tail, ZN, ZD, Zu, if_true, if_false, List.cons.injEq, Nat.reduceLT, Nat.reduceLeDiff, List.length_nil, Bool.false_eq_true, Bool.true_eq_false, eq_self, Nat.reduceEqDiff, reduceCtorEq, true_or, or_true, or_self, false_or, or_false, not_true_eq_false, not_false_eq_true, and_true, true_and, and_false, false_and, *] at hk) | (refine Yl ?_ ?_ ?_) | (refine ZP ?_ ?_ ?_) | refine And.intro ?_ ?_ | (refine ZX (by assumption) ?_) | exact ZW.refl | (refine ZW.trans (by assumption) (by first | omega | (simp only [Z4, Z3]; omega)) ?_) | exact W5 | exact X6 | exact Y9 | (refine W6 (by assumption) (by assumption) (by first | omega | (simp only [Z4, Z3]; omega)) ?_) | (refine W0 (by assumption) (by assumption) (by first | omega | (simp only [Z4, Z3]; omega)) ?_) | (refine ⟨_, YU, ?_⟩) | (refine ⟨_, by assumption, ?_⟩) | (refine Tp.mono (by assumption) ?_ (fun _ _ _ => ?_)) | assumption | (show ZQ _ _; first | assumption | ((iterate 6 (try refine Zx (by assumption) (by omega) ?_)); first | assumption | exact Zw (by assumption) (by omega) | exact Zv (by assumption) (by assumption) | exact Zf | exact Y5 (by assumption) (by assumption) (by assumption) (by omega) (by assumption))) | (show _ < _; omega) | (show _ ≤ _; omega) | (show (_ : Nat) ≠ _; omega) | (show ¬ (_ : Nat) = _; omega) | (show (_ : Nat) = _; omega) | (intro _; intros) | (exact False.elim (by assumption)) | fail))
  all_goals trace_state
end
section
variable {tk : D} {l : List Tok} {lp : Nat} {h : H} {Q : D → H → Prop} {R : Pan}
theorem sizedW_none : Ys [110, 111, 110, 101] = (0, false) := by simp [Ys]
theorem vc156_none (h77 : T 78 = q77) (h78 : T 79 = q78) (h73 : T 74 = q73) (h114 : T 115 = q114) (h117 : T 118 = q117) (h208 : T 209 = XJ) (h155 : T 156 = XL) (h154 : T 155 = XX) (h118 : T 119 = W1) (h115 : T 116 = q115) (h116 : T 117 = q116) (h257 : T 258 = q257) (h258 : T 259 = q258) (h261 : T 262 = q261) (h213 : T 214 = q213) (h74 : T 75 = q74) (h214 : T 215 = q214) (h216 : T 217 = q216) (h209 : T 210 = q209) (h210 : T 211 = q210) (h211 : T 212 = q211) (h212 : T 213 = q212) (h215 : T 216 = q215) (h156 : T 157 = q156) (tks : Toks tk l) {f : Nat}
    (ihF : ∀ {h : H} {Q : D → H → Prop} {R : Pan}, CE tk l h lp (fun i dep es => Yt l f 1 i dep es) Q R → VC E T 159 [.ptr lp 0] h Q R)
    (ihK : ∀ {h : H} {Q : D → H → Prop} {R : Pan}, CT tk l h lp 0 (fun i dep es ts => Y8 l f i dep es ts) Q R → VC E T 157 [.ptr lp 0] h Q R)
    (ihC : ∀ {h : H} {Q : D → H → Prop} {R : Pan}, CT tk l h lp 0 (fun i dep es ts => YM l f i dep es ts) Q R → VC E T 218 [.ptr lp 0] h Q R)
    (hp : atP tk l (Zg h.mem lp) lp h.next fun i _ _ => ¬ isN (Zp l i) ∧ isK (Zp l i) ∧ (Zp l i).s = [110, 111, 110, 101])
    (hq : CT tk l h lp 0 (fun i dep es ts => Y8 l (f + 1) i dep es ts) Q R) : VC E T 157 [.ptr lp 0] h Q R := by
  obtain ⟨i, dep, lf, hm, ⟨hi, hn⟩, ⟨n1, n2⟩, dc, ds, de, dt, hf, es, hE, ts, hY, hT, hU, ⟨hl, hl2⟩, ⟨s1, s2, s3, s4⟩, s5, hk⟩ := hq
  have s6 := sepS s5
  have hbd := hT.bnd
  have hbu := hU.bnd
  have hsm := tks.small
  simp only [hm, YS] at hp
  obtain ⟨_, hN, hK, hw⟩ := hp
  have hmk : isK (Zp l i) → i + 1 < l.length := fun h => tks.more i hi (by rcases h with h | h <;> rw [h.1] <;> decide)
  refine Ya h156 ?_
  unfold ZV
  repeat' (with_reducible (first | refine Zk ?_ | refine Zl ?_ | refine ZG ?_ | refine ZF ?_ | refine Zn ?_ | refine Zd ?_ | refine Zm ?_ | refine ZH ?_ | refine Zy ?_ | refine Zi ?_ | refine Zz ?_ | refine vc118 h77 h208 h155 h154 h118 tks ?_ | refine vc211 h77 h208 h155 h154 h118 h211 tks ?_ | refine vc77 h77 tks ?_ | refine vc212 h212 ⟨?_, ?_⟩ | refine Ya h213 ?_ | refine vc214 h77 h78 h73 h114 h117 h208 h155 h154 h118 h115 h116 h257 h258 h261 h214 tks (f := f) ihF ?_ | refine vc215 h77 h78 h73 h114 h117 h208 h155 h154 h118 h115 h116 h257 h258 h261 h211 h215 tks (f := f) ihK ?_ | refine vc216 h216 tks (tyR_mk SlR.nil SlR.nil) ?_ | refine ihC ?_ | simp (maxSteps := 2000000) (disch := first | assumption | ((try refine Yy (by assumption) ?_); (show ZQ _ _; first | assumption | ((iterate 6 (try refine Zx (by assumption) (by omega) ?_)); first | assumption | exact Zw (by assumption) (by omega) | exact Zv (by assumption) (by assumption) | exact Zf | exact Y5 (by assumption) (by assumption) (by assumption) (by omega) (by assumption)))) | omega | (simp only [Z4, Z3, List.length_cons, List.length_nil, List.length_append, List.length_take, List.length_drop]; omega) | fail) only [go_sem, -Int.reduceOfNat, *, CE, FE, GE, CT, FT, GT, CR, FR, ZV, true_implies, false_implies, implies_true, sizedW_none] | ((first | refine ZL ?_ ?_ | refine ZC ?_ ?_ | refine ZK ?_ ?_ | refine ZA ?_ ?_ | refine ZB ?_ ?_ | refine Zj ?_ ?_) <;> intro _) | (exact hmk (by assumption)) | (show Q _ _; simp only [Y8, sizedW_none, ZN, ZD, Zu, if_true, if_false, List.cons.injEq, Nat.reduceLT, Nat.reduceLeDiff, List.length_nil, Bool.false_eq_true, Bool.true_eq_false, eq_self, Nat.reduceEqDiff, reduceCtorEq, true_or, or_true, or_self, false_or, or_false, not_true_eq_false, not_false_eq_true, and_true, true_and, and_false, false_and, *] at hk; refine hk _ _ _ (by assumption) (by assumption) ?_ ?_ ?_ ?_ ?_ ?_ ?_ ?_ ?_ ?_ ?_ ?_ ?_) | (show R _ _; simp only [Y8, sizedW_none, ZN, ZD, Zu, if_true, if_false, List.cons.injEq, Nat.reduceLT, Nat.reduceLeDiff, List.length_nil, Bool.false_eq_true, Bool.true_eq_false, eq_self, Nat.reduceEqDiff, reduceCtorEq, true_or, or_true, or_self, false_or, or_false, not_true_eq_false, not_false_eq_true, and_true, true_and, and_false, false_and, *] at hk; refine hk _ ?_ ?_ ?_) | (show False; simp only [Y8, sizedW_none, ZN, ZD, Zu, if_true, if_false, List.cons.injEq, Nat.reduceLT, Nat.reduceLeDiff, List.length_nil, Bool.false_eq_true, Bool.true_eq_false, eq_self, Nat.reduceEqDiff, reduceCtorEq, true_or, or_true, or_self, false_or, or_false, not_true_eq_false, not_false_eq_true, and_true, true_and, and_false, false_and, *] at hk) | (refine Yl ?_ ?_ ?_) | (refine ZP ?_ ?_ ?_) | refine And.intro ?_ ?_ | (refine ZX (by assumption) ?_) | exact ZW.refl | (refine ZW.trans (by assumption) (by first | omega | (simp only [Z4, Z3]; omega)) ?_) | exact W5 | exact X6 | exact Y9 | (refine W6 (by assumption) (by assumption) (by first | omega | (simp only [Z4, Z3]; omega)) ?_) | (refine W0 (by assumption) (by assumption) (by first | omega | (simp only [Z4, Z3]; omega)) ?_) | (refine ⟨_, YU, ?_⟩) | (refine ⟨_, by assumption, ?_⟩) | (refine Tp.mono (by assumption) ?_ (fun _ _ _ => ?_)) | assumption | (show ZQ _ _; first | assumption | ((iterate 6 (try refine Zx (by assumption) (by omega) ?_)); first | assumption | exact Zw (by assumption) (by omega) | exact Zv (by assumption) (by assumption) | exact Zf | exact Y5 (by assumption) (by assumption) (by assumption) (by omega) (by assumption))) | (show _ < _; omega) | (show _ ≤ _; omega) | (show (_ : Nat) ≠ _; omega) | (show ¬ (_ : Nat) = _; omega) | (show (_ : Nat) = _; omega) | (intro _; intros) | (exact False.elim (by assumption)) | fail))
  all_goals trace_state
end
section
variable {tk : D} {l : List Tok} {lp : Nat} {h : H} {Q : D → H → Prop} {R : Pan}
theorem sizedW_switch : Ys [115, 119, 105, 116, 99, 104] = (0, false) := by simp [Ys]
theorem vc156_switch (h77 : T 78 = q77) (h78 : T 79 = q78) (h73 : T 74 = q73) (h114 : T 115 = q114) (h117 : T 118 = q117) (h208 : T 209 = XJ) (h155 : T 156 = XL) (h154 : T 155 = XX) (h118 : T 119 = W1) (h115 : T 116 = q115) (h116 : T 117 = q116) (h257 : T 258 = q257) (h258 : T 259 = q258) (h261 : T 262 = q261) (h213 : T 214 = q213) (h74 : T 75 = q74) (h214 : T 215 = q214) (h216 : T 217 = q216) (h209 : T 210 = q209) (h210 : T 211 = q210) (h211 : T 212 = q211) (h212 : T 213 = q212) (h215 : T 216 = q215) (h156 : T 157 = q156) (tks : Toks tk l) {f : Nat}
    (ihF : ∀ {h : H} {Q : D → H → Prop} {R : Pan}, CE tk l h lp (fun i dep es => Yt l f 1 i dep es) Q R → VC E T 159 [.ptr lp 0] h Q R)
    (ihK : ∀ {h : H} {Q : D → H → Prop} {R : Pan}, CT tk l h lp 0 (fun i dep es ts => Y8 l f i dep es ts) Q R → VC E T 157 [.ptr lp 0] h Q R)
    (ihC : ∀ {h : H} {Q : D → H → Prop} {R : Pan}, CT tk l h lp 0 (fun i dep es ts => YM l f i dep es ts) Q R → VC E T 218 [.ptr lp 0] h Q R)
    (hp : atP tk l (Zg h.mem lp) lp h.next fun i _ _ => ¬ isN (Zp l i) ∧ isK (Zp l i) ∧ (Zp l i).s = [115, 119, 105, 116, 99, 104])
    (hq : CT tk l h lp 0 (fun i dep es ts => Y8 l (f + 1) i dep es ts) Q R) : VC E T 157 [.ptr lp 0] h Q R := by
  obtain ⟨i, dep, lf, hm, ⟨hi, hn⟩, ⟨n1, n2⟩, dc, ds, de, dt, hf, es, hE, ts, hY, hT, hU, ⟨hl, hl2⟩, ⟨s1, s2, s3, s4⟩, s5, hk⟩ := hq
  have s6 := sepS s5
  have hbd := hT.bnd
  have hbu := hU.bnd
  have hsm := tks.small
  simp only [hm, YS] at hp
  obtain ⟨_, hN, hK, hw⟩ := hp
  have hmk : isK (Zp l i) → i + 1 < l.length := fun h => tks.more i hi (by rcases h with h | h <;> rw [h.1] <;> decide)
  refine Ya h156 ?_
  unfold ZV
  repeat' (with_reducible (first | refine Zk ?_ | refine Zl ?_ | refine ZG ?_ | refine ZF ?_ | refine Zn ?_ | refine Zd ?_ | refine Zm ?_ | refine ZH ?_ | refine Zy ?_ | refine Zi ?_ | refine Zz ?_ | refine vc118 h77 h208 h155 h154 h118 tks ?_ | refine vc211 h77 h208 h155 h154 h118 h211 tks ?_ | refine vc77 h77 tks ?_ | refine vc212 h212 ⟨?_, ?_⟩ | refine Ya h213 ?_ | refine vc214 h77 h78 h73 h114 h117 h208 h155 h154 h118 h115 h116 h257 h258 h261 h214 tks (f := f) ihF ?_ | refine vc215 h77 h78 h73 h114 h117 h208 h155 h154 h118 h115 h116 h257 h258 h261 h211 h215 tks (f := f) ihK ?_ | refine vc216 h216 tks (tyR_mk SlR.nil SlR.nil) ?_ | refine ihC ?_ | simp (maxSteps := 2000000) (disch := first | assumption | ((try refine Yy (by assumption) ?_); (show ZQ _ _; first | assumption | ((iterate 6 (try refine Zx (by assumption) (by omega) ?_)); first | assumption | exact Zw (by assumption) (by omega) | exact Zv (by assumption) (by assumption) | exact Zf | exact Y5 (by assumption) (by assumption) (by assumption) (by omega) (by assumption)))) | omega | (simp only [Z4, Z3, List.length_cons, List.length_nil, List.length_append, List.length_take, List.length_drop]; omega) | fail) only [go_sem, -Int.reduceOfNat, *, CE, FE, GE, CT, FT, GT, CR, FR, ZV, true_implies, false_implies, implies_true, sizedW_switch] | ((first | refine ZL ?_ ?_ | refine ZC ?_ ?_ | refine ZK ?_ ?_ | refine ZA ?_ ?_ | refine ZB ?_ ?_ | refine Zj ?_ ?_) <;> intro _) | (exact hmk (by assumption)) | (show Q _ _; simp only [Y8, sizedW_switch, ZN, ZD, Zu, if_true, if_false, List.cons.injEq, Nat.reduceLT, Nat.reduceLeDiff, List.length_nil, Bool.false_eq_true, Bool.true_eq_false, eq_self, Nat.reduceEqDiff, reduceCtorEq, true_or, or_true, or_self, false_or, or_false, not_true_eq_false, not_false_eq_true, and_true, true_and, and_false, false_and, *] at hk; refine hk _ _ _ (by assumption) (by assumption) ?_ ?_ ?_ ?_ ?_ ?_ ?_ ?_ ?_ ?_ ?_ ?_ ?_) | (show R _ _; simp only [Y8, sizedW_switch, ZN, ZD, Zu, if_true, if_false, List.cons.injEq, Nat.reduceLT, Nat.reduceLeDiff, List.length_nil, Bool.false_eq_true, Bool.true_eq_false, eq_self, Nat.reduceEqDiff, reduceCtorEq, true_or, or_true, or_self, false_or, or_false, not_true_eq_false, not_false_eq_true, and_true, true_and, and_false, false_and, *] at hk; refine hk _ ?_ ?_ ?_) | (show False; simp only [Y8, sizedW_switch, ZN, ZD, Zu, if_true, if_false, List.cons.injEq, Nat.reduceLT, Nat.reduceLeDiff, List.length_nil, Bool.false_eq_true, Bool.true_eq_false, eq_self, Nat.reduceEqDiff, reduceCtorEq, true_or, or_true, or_self, false_or, or_false, not_true_eq_false, not_false_eq_true, and_true, true_and, and_false, false_and, *] at hk) | (refine Yl ?_ ?_ ?_) | (refine ZP ?_ ?_ ?_) | refine And.intro ?_ ?_ | (refine ZX (by assumption) ?_) | exact ZW.refl | (refine ZW.trans (by assumption) (by first | omega | (simp only [Z4, Z3]; omega)) ?_) | exact W5 | exact X6 | exact Y9 | (refine W6 (by assumption) (by assumption) (by first | omega | (simp only [Z4, Z3]; omega)) ?_) | (refine W0 (by assumption) (by assumption) (by first | omega | (simp only [Z4, Z3]; omega)) ?_) | (refine ⟨_, YU, ?_⟩) | (refine ⟨_, by assumption, ?_⟩) | (refine Tp.mono (by assumption) ?_ (fun _ _ _ => ?_)) | assumption | (show ZQ _ _; first | assumption | ((iterate 6 (try refine Zx (by assumption) (by omega) ?_)); first | assumption | exact Zw (by assumption) (by omega) | exact Zv (by assumption) (by assumption) | exact Zf | exact Y5 (by assumption) (by assumption) (by assumption) (by omega) (by assumption))) | (show _ < _; omega) | (show _ ≤ _; omega) | (show (_ : Nat) ≠ _; omega) | (show ¬ (_ : Nat) = _; omega) | (show (_ : Nat) = _; omega) | (intro _; intros) | (exact False.elim (by assumption)) | fail))
  all_goals trace_state
end
section
variable {tk : D} {l : List Tok} {lp : Nat} {h : H} {Q : D → H → Prop} {R : Pan}
theorem vc156_int (h77 : T 78 = q77) (h78 : T 79 = q78) (h73 : T 74 = q73) (h114 : T 115 = q114) (h117 : T 118 = q117) (h208 : T 209 = XJ) (h155 : T 156 = XL) (h154 : T 155 = XX) (h118 : T 119 = W1) (h115 : T 116 = q115) (h116 : T 117 = q116) (h257 : T 258 = q257) (h258 : T 259 = q258) (h261 : T 262 = q261) (h213 : T 214 = q213) (h74 : T 75 = q74) (h214 : T 215 = q214) (h216 : T 217 = q216) (h209 : T 210 = q209) (h210 : T 211 = q210) (h211 : T 212 = q211) (h212 : T 213 = q212) (h215 : T 216 = q215) (h156 : T 157 = q156) (tks : Toks tk l) {f : Nat}
    (ihF : ∀ {h : H} {Q : D → H → Prop} {R : Pan}, CE tk l h lp (fun i dep es => Yt l f 1 i dep es) Q R → VC E T 159 [.ptr lp 0] h Q R)
    (ihK : ∀ {h : H} {Q : D → H → Prop} {R : Pan}, CT tk l h lp 0 (fun i dep es ts => Y8 l f i dep es ts) Q R → VC E T 157 [.ptr lp 0] h Q R)
    (ihC : ∀ {h : H} {Q : D → H → Prop} {R : Pan}, CT tk l h lp 0 (fun i dep es ts => YM l f i dep es ts) Q R → VC E T 218 [.ptr lp 0] h Q R)
    (hp : atP tk l (Zg h.mem lp) lp h.next fun i _ _ => ¬ isN (Zp l i) ∧ isK (Zp l i) ∧ (Ys (Zp l i).s).2 = false ∧ ¬ (Zp l i).s = [114, 101, 115, 116] ∧ ¬ (Zp l i).s = [116, 97, 105, 108] ∧ ¬ (Zp l i).s = [110, 111, 110, 101] ∧ ¬ (Zp l i).s = [115, 119, 105, 116, 99, 104] ∧ (integ (Zp l i).s).2.2 = true)
    (hq : CT tk l h lp 0 (fun i dep es ts => Y8 l (f + 1) i dep es ts) Q R) : VC E T 157 [.ptr lp 0] h Q R := by
  obtain ⟨i, dep, lf, hm, ⟨hi, hn⟩, ⟨n1, n2⟩, dc, ds, de, dt, hf, es, hE, ts, hY, hT, hU, ⟨hl, hl2⟩, ⟨s1, s2, s3, s4⟩, s5, hk⟩ := hq
  have s6 := sepS s5
  have hbd := hT.bnd
  have hbu := hU.bnd
  have hsm := tks.small
  simp only [hm, YS] at hp
  obtain ⟨_, hN, hK, hz, hw1, hw2, hw3, hw4, hi8⟩ := hp
  have hmk : isK (Zp l i) → i + 1 < l.length := fun h => tks.more i hi (by rcases h with h | h <;> rw [h.1] <;> decide)
  refine Ya h156 ?_
  unfold ZV
  repeat' (with_reducible (first | refine Zk ?_ | refine Zl ?_ | refine ZG ?_ | refine ZF ?_ | refine Zn ?_ | refine Zd ?_ | refine Zm ?_ | refine ZH ?_ | refine Zy ?_ | refine Zi ?_ | refine Zz ?_ | refine vc118 h77 h208 h155 h154 h118 tks ?_ | refine vc211 h77 h208 h155 h154 h118 h211 tks ?_ | refine vc77 h77 tks ?_ | refine vc212 h212 ⟨?_, ?_⟩ | refine vc155 h208 h155 ⟨?_, ?_⟩ | refine Ya h213 ?_ | refine vc209 h77 h78 h73 h114 h117 h208 h155 h154 h118 h115 h116 h257 h258 h261 h213 h214 h216 h209 tks (f := f) ihF (tyR_mk SlR.nil SlR.nil) ?_ | simp (maxSteps := 2000000) (disch := first | assumption | ((try refine Yy (by assumption) ?_); (show ZQ _ _; first | assumption | ((iterate 6 (try refine Zx (by assumption) (by omega) ?_)); first | assumption | exact Zw (by assumption) (by omega) | exact Zv (by assumption) (by assumption) | exact Zf | exact Y5 (by assumption) (by assumption) (by assumption) (by omega) (by assumption)))) | omega | (simp only [Z4, Z3, List.length_cons, List.length_nil, List.length_append, List.length_take, List.length_drop]; omega) | fail) only [go_sem, -Int.reduceOfNat, *, CE, FE, GE, CT, FT, GT, CR, FR, ZV, true_implies, false_implies, implies_true] | ((first | refine ZL ?_ ?_ | refine ZC ?_ ?_ | refine ZK ?_ ?_ | refine ZA ?_ ?_ | refine ZB ?_ ?_ | refine Zj ?_ ?_) <;> intro _) | (exact hmk (by assumption)) | (show Q _ _; simp only [Y8, ZN, ZD, Zu, if_true, if_false, List.cons.injEq, Nat.reduceLT, Nat.reduceLeDiff, List.length_nil, Bool.false_eq_true, Bool.true_eq_false, eq_self, Nat.reduceEqDiff, reduceCtorEq, true_or, or_true, or_self, false_or, or_false, not_true_eq_false, not_false_eq_true, and_true, true_and, and_false, false_and, *] at hk; refine hk _ _ _ (by assumption) (by assumption) ?_ ?_ ?_ ?_ ?_ ?_ ?_ ?_ ?_ ?_ ?_ ?_ ?_) | (show R _ _; simp only [Y8, ZN, ZD, Zu, if_true, if_false, List.cons.injEq, Nat.reduceLT, Nat.reduceLeDiff, List.length_nil, Bool.false_eq_true, Bool.true_eq_false, eq_self, Nat.reduceEqDiff, reduceCtorEq, true_or, or_true, or_self, false_or, or_false, not_true_eq_false, not_false_eq_true, and_true, true_and, and_false, false_and, *] at hk; refine hk _ ?_ ?_ ?_) | (show False; simp only [Y8, ZN, ZD, Zu, if_true, if_false, List.cons.injEq, Nat.reduceLT, Nat.reduceLeDiff, List.length_nil, Bool.false_eq_true, Bool.true_eq_false, eq_self, Nat.reduceEqDiff, reduceCtorEq, true_or, or_true, or_self, false_or, or_false, not_true_eq_false, not_false_eq_true, and_true, true_and, and_false, false_and, *] at hk) | (refine Yl ?_ ?_ ?_) | (refine ZP ?_ ?_ ?_) | refine And.intro ?_ ?_ | (refine ZX (by assumption) ?_) | exact ZW.refl | (refine ZW.trans (by assumption) (by first | omega | (simp only [Z4, Z3]; omega)) ?_) | exact W5 | exact X6 | exact Y9 | (refine W6 (by assumption) (by assumption) (by first | omega | (simp only [Z4, Z3]; omega)) ?_) | (refine W0 (by assumption) (by assumption) (by first | omega | (simp only [Z4, Z3]; omega)) ?_) | (refine ⟨_, YU, ?_⟩) | (refine ⟨_, by assumption, ?_⟩) | (refine Tp.mono (by assumption) ?_ (fun _ _ _ => ?_)) | assumption | (show ZQ _ _; first | assumption | ((iterate 6 (try refine Zx (by assumption) (by omega) ?_)); first | assumption | exact Zw (by assumption) (by omega) | exact Zv (by assumption) (by assumption) | exact Zf | exact Y5 (by assumption) (by assumption) (by assumption) (by omega) (by assumption))) | (show _ < _; omega) | (show _ ≤ _; omega) | (show (_ : Nat) ≠ _; omega) | (show ¬ (_ : Nat) = _; omega) | (show (_ : Nat) = _; omega) | (intro _; intros) | (exact False.elim (by assumption)) | fail))
  all_goals trace_state
end
section
variable {tk : D} {l : List Tok} {lp : Nat} {h : H} {Q : D → H → Prop} {R : Pan}
theorem vc156 (h77 : T 78 = q77) (h78 : T 79 = q78) (h73 : T 74 = q73) (h114 : T 115 = q114) (h117 : T 118 = q117) (h208 : T 209 = XJ) (h155 : T 156 = XL) (h154 : T 155 = XX) (h118 : T 119 = W1) (h115 : T 116 = q115) (h116 : T 117 = q116) (h257 : T 258 = q257) (h258 : T 259 = q258) (h261 : T 262 = q261) (h213 : T 214 = q213) (h74 : T 75 = q74) (h214 : T 215 = q214) (h216 : T 217 = q216) (h209 : T 210 = q209) (h210 : T 211 = q210) (h211 : T 212 = q211) (h212 : T 213 = q212) (h215 : T 216 = q215) (h156 : T 157 = q156) (tks : Toks tk l) {f : Nat}
    (ihF : ∀ {h : H} {Q : D → H → Prop} {R : Pan}, CE tk l h lp (fun i dep es => Yt l f 1 i dep es) Q R → VC E T 159 [.ptr lp 0] h Q R)
    (ihK : ∀ {h : H} {Q : D → H → Prop} {R : Pan}, CT tk l h lp 0 (fun i dep es ts => Y8 l f i dep es ts) Q R → VC E T 157 [.ptr lp 0] h Q R)
    (ihC : ∀ {h : H} {Q : D → H → Prop} {R : Pan}, CT tk l h lp 0 (fun i dep es ts => YM l f i dep es ts) Q R → VC E T 218 [.ptr lp 0] h Q R)
    (hq : CT tk l h lp 0 (fun i dep es ts => Y8 l (f + 1) i dep es ts) Q R) : VC E T 157 [.ptr lp 0] h Q R := by
  have hq' := hq
  obtain ⟨i, dep, lf, hm, hin, _⟩ := hq
  by_cases hN : isN (Zp l i)
  · exact vc156_named h77 h78 h73 h114 h117 h208 h155 h154 h118 h115 h116 h257 h258 h261 h213 h74 h214 h216 h209 h210 h211 h212 h215 h156 tks ihF ihK ihC ⟨i, dep, lf, hm, hin, hN⟩ hq'
  by_cases hK : isK (Zp l i)
  · have hk0 : (Zp l i).k = 0 ∧ typW (Zp l i).s = true := hK.resolve_left hN
    by_cases hz : (Ys (Zp l i).s).2 = true
    · by_cases hz7 : (Ys (Zp l i).s).1 = 7 ∨ (Ys (Zp l i).s).1 = 8
      · exact vc156_sizA h77 h78 h73 h114 h117 h208 h155 h154 h118 h115 h116 h257 h258 h261 h213 h74 h214 h216 h209 h210 h211 h212 h215 h156 tks ihF ihK ihC ⟨i, dep, lf, hm, hin, hN, hK, hz, hz7⟩ hq'
      · exact vc156_sizB h77 h78 h73 h114 h117 h208 h155 h154 h118 h115 h116 h257 h258 h261 h213 h74 h214 h216 h209 h210 h211 h212 h215 h156 tks ihF ihK ihC ⟨i, dep, lf, hm, hin, hN, hK, hz, fun h => hz7 (.inl h), fun h => hz7 (.inr h)⟩ hq'
    by_cases hw0 : (Zp l i).s = [114, 101, 115, 116]
    · exact vc156_rest h77 h78 h73 h114 h117 h208 h155 h154 h118 h115 h116 h257 h258 h261 h213 h74 h214 h216 h209 h210 h211 h212 h215 h156 tks ihF ihK ihC ⟨i, dep, lf, hm, hin, hN, hK, hw0⟩ hq'
    by_cases hw1 : (Zp l i).s = [116, 97, 105, 108]
    · exact vc156_tail h77 h78 h73 h114 h117 h208 h155 h154 h118 h115 h116 h257 h258 h261 h213 h74 h214 h216 h209 h210 h211 h212 h215 h156 tks ihF ihK ihC ⟨i, dep, lf, hm, hin, hN, hK, hw1⟩ hq'
    by_cases hw2 : (Zp l i).s = [110, 111, 110, 101]
    · exact vc156_none h77 h78 h73 h114 h117 h208 h155 h154 h118 h115 h116 h257 h258 h261 h213 h74 h214 h216 h209 h210 h211 h212 h215 h156 tks ihF ihK ihC ⟨i, dep, lf, hm, hin, hN, hK, hw2⟩ hq'
    by_cases hw3 : (Zp l i).s = [115, 119, 105, 116, 99, 104]
    · exact vc156_switch h77 h78 h73 h114 h117 h208 h155 h154 h118 h115 h116 h257 h258 h261 h213 h74 h214 h216 h209 h210 h211 h212 h215 h156 tks ihF ihK ihC ⟨i, dep, lf, hm, hin, hN, hK, hw3⟩ hq'
    have hz' : (Ys (Zp l i).s).2 = false := by simpa using hz
    refine vc156_int h77 h78 h73 h114 h117 h208 h155 h154 h118 h115 h116 h257 h258 h261 h213 h74 h214 h216 h209 h210 h211 h212 h215 h156 tks ihF ihK ihC ⟨i, dep, lf, hm, hin, hN, hK, hz', hw0, hw1, hw2, hw3, ?_⟩ hq'
    have ht := hk0.2
    have hs := hz'
    unfold typW at ht
    unfold Ys at hs
    simp only [Bool.or_eq_true, decide_eq_true_eq] at ht
    repeat' split at hs
    all_goals first | (cases hs; done) | (simp only [*, or_false, false_or] at ht; first | exact ht | simp_all)
  · exact vc156_bad h77 h78 h73 h114 h117 h208 h155 h154 h118 h115 h116 h257 h258 h261 h213 h74 h214 h216 h209 h210 h211 h212 h215 h156 tks ihF ihK ihC ⟨i, dep, lf, hm, hin, hN, hK⟩ hq'
end
section
variable {tk : D} {l : List Tok} {lp : Nat} {h : H} {Q : D → H → Prop} {R : Pan}
theorem CT.no {c : Nat} {S : Nat → Nat → List Ex → List Ty → Res (Nat × Nat × List Ex × List Ty)} (hs : ∀ i dep es ts, S i dep es ts = .oof) (hq : CT tk l h lp c S Q R) : False := by
  obtain ⟨i, dep, lf, hm, ⟨hi, hn⟩, ⟨n1, n2⟩, dc, ds, de, dt, hf, es, hE, ts, hY, hT, hU, ⟨hl, hl2⟩, ⟨s1, s2, s3, s4⟩, s5, hk⟩ := hq
  rw [hs] at hk
  exact hk
theorem vcK (h77 : T 78 = q77) (h78 : T 79 = q78) (h73 : T 74 = q73) (h114 : T 115 = q114) (h117 : T 118 = q117) (h208 : T 209 = XJ) (h155 : T 156 = XL) (h154 : T 155 = XX) (h118 : T 119 = W1) (h115 : T 116 = q115) (h116 : T 117 = q116) (h257 : T 258 = q257) (h258 : T 259 = q258) (h261 : T 262 = q261) (h213 : T 214 = q213) (h74 : T 75 = q74) (h214 : T 215 = q214) (h216 : T 217 = q216) (h209 : T 210 = q209) (h210 : T 211 = q210) (h211 : T 212 = q211) (h212 : T 213 = q212) (h215 : T 216 = q215) (h156 : T 157 = q156) (h217 : T 218 = q217) (tks : Toks tk l)
    (ihE : ∀ (g : Nat) {h : H} {Q : D → H → Prop} {R : Pan}, CE tk l h lp (fun i dep es => Yt l g 1 i dep es) Q R → VC E T 159 [.ptr lp 0] h Q R) : ∀ f : Nat,
    (∀ {g : Nat}, g ≤ f → ∀ {h : H} {Q : D → H → Prop} {R : Pan}, CT tk l h lp 0 (fun i dep es ts => Y8 l g i dep es ts) Q R → VC E T 157 [.ptr lp 0] h Q R) ∧
    (∀ {g : Nat}, g ≤ f → ∀ {h : H} {Q : D → H → Prop} {R : Pan}, CT tk l h lp 0 (fun i dep es ts => YM l g i dep es ts) Q R → VC E T 218 [.ptr lp 0] h Q R) := by
  intro f
  induction f with
  | zero =>
    refine ⟨fun hg _ _ _ hq => ?_, fun hg _ _ _ hq => ?_⟩
    · obtain rfl : _ = 0 := Nat.le_zero.1 hg
      exact (CT.no (fun _ _ _ _ => by simp only [Y8]) hq).elim
    · obtain rfl : _ = 0 := Nat.le_zero.1 hg
      exact (CT.no (fun _ _ _ _ => by simp only [YM]) hq).elim
  | succ f ih =>
    refine ⟨fun {g} hg {h Q R} hq => ?_, fun {g} hg {h Q R} hq => ?_⟩
    · by_cases hf : g ≤ f
      · exact ih.1 hf hq
      · obtain rfl : g = f + 1 := by omega
        exact vc156 h77 h78 h73 h114 h117 h208 h155 h154 h118 h115 h116 h257 h258 h261 h213 h74 h214 h216 h209 h210 h211 h212 h215 h156 tks (fun hq => ihE _ hq) (fun hq => ih.1 (Nat.le_refl f) hq) (fun hq => ih.2 (Nat.le_refl f) hq) hq
    · by_cases hf : g ≤ f
      · exact ih.2 hf hq
      · obtain rfl : g = f + 1 := by omega
        exact vc217 h77 h78 h73 h114 h117 h208 h155 h154 h118 h115 h116 h257 h258 h261 h213 h74 h211 h215 h216 h217 tks (fun _ _ _ _ hq => ihE _ hq) (fun hg _ _ _ hq => ih.1 hg hq) hq
end
end Run
end Go.Abs
