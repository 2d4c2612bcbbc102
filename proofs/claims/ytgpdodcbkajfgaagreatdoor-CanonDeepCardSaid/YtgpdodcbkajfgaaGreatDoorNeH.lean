/- A description is read: walk of the program. -/
import Derived.Test.YtgpdodcbkajfgaaGreatDoorNeWB
import Derived.Test.YtgpdodcbkajfgaaGreatDoorNeS
import Derived.Test.YtgpdodcbkajfgaaGreatDoorNeC
import Derived.Test.YtgpdodcbkajfgaaGreatDoorNeA
set_option linter.unusedVariables false
set_option linter.unusedSimpArgs false
namespace Go.Abs
namespace Run
variable {E : Env} {T : Nat → FFn}
set_option maxHeartbeats 4000000
set_option maxRecDepth 100000
attribute [local go_sem] vr_mv vr_len vr_fa vr_nil vr_ext vr_not vr_ixs vr_sl vr_ld1 vr_ldN vr_st vr_alloc vr_box vr_mkmap vr_int vr_pick vr_build Wd vr_look vr_mk vr_app vr_sbin vr_fog vr_end vr_b2s vr_lens vr_slstr vr_cint vr_fld vr_iface vr_panic vr_mkf vr_idxs vr_idxa vd_mv vd_fa vd_nil vd_ext vd_ixs vd_alloc vd_build We vd_ld1 vd_ldN vd_st vd_mset vd_app vd_int vd_end vd_cint vd_fld vd_mkf vd_fdg vd_not vd_pick vd_len vd_lens vd_box vd_sbin vd_idxs vO_ok vO_pan vD_ok vRd_ok vL_ok vB_t vB_f vG_t vG_f vDg_t vDg_f lseq_n lseq_r lseq_e kblk_n kblk_r kblk_e lfn_n lfn_r lloop_n lloop_e lloop_r sC_ok lroll_n lroll_e lroll_r oFa_ptr oFa_ep oNil_ptr oNil_ep oLen_sl oLen_row oLen_nil oExt_0 oExt_1 oExt_2 okq_some oNot_bool oSl_nil rc_ptr rc_ep oRd_c oEp oLd1_some oLdN_some oStw_eq oStw_c oInt_int oPick_b XO Xj ffill_nil oFill_some ffill patch oFind_some oFind_none oOne_some oTwo_some cfin_one cfin_two wanted_t wanted_f wanted_u evs_nil evs_cons fargs_nil fargs_cons oLens_str oB2s_nil oApp_unf oApp_unil oSame_some Xv loudOk_rdS mem_cons loudT readT sames_one Option.map_some Option.map_none oCint_n oHd_cons oAg_some oFld_agg oPan_i oEq_str oNe_strs oIdxa_f oPart_some oAdd_str cells_int cells_str cells_agg cells_sl cells_row cells_map cells_ptr cells_bool cells_nil one_nil one_cons one_int one_str one_sl one_row one_map one_ptr one_bool one_vnil Yc dneq dlss dleq dgtr W9 iEq_n iLt_n iLe XY blt_dec ble_dec mem_nil readOk_nil readOk_rd loudOk_nil XP Xt add_small sub_small beqL_dec List.drop_succ_cons List.drop_zero List.drop_nil List.take_succ_cons List.take_zero List.take_nil List.length_cons List.length_nil List.length_append List.cons_append List.nil_append Nat.reduceAdd Nat.reduceEqDiff Nat.reduceLeDiff Nat.reduceLT List.cons.injEq reduceCtorEq eq_self not_true_eq_false not_false_eq_true and_false false_and true_or or_true decide_true decide_false Bool.and_self Bool.and_true Bool.true_and Bool.true_or Bool.or_true Bool.false_or Bool.or_false Bool.false_and Bool.and_false Bool.not_true Bool.not_false cond_true cond_false true_and and_true Gt_St p0_eq kD_eq reduceIte Nat.add_zero Nat.zero_add Nat.add_sub_cancel Nat.reduceMul Nat.reduceSub Nat.reduceBEq List.map_cons List.map_nil Z4 Z3 XR YA X7 Yi vCd_func vCd_v Zf YN Yw same_nil same_ptr Xd Xn YS tokC atF_some ZN ZD Zu vr_s2b oS2b_str oIxs_by oIdxs_s oSl_lo oSl_hi oSl_lh vd_slstr vr_tas oTas_yes cfin_thr oFin3_some oFin2_some cfin_two2 oOnly_one
abbrev c24_0 : CC := (.ops [⟨some 2, none, .alloc 22 [(.v (.pointer none))]⟩, ⟨some 3, none, .alloc 66 [(.int .i64 (.ofNat 0)), (.int .i64 (.ofNat 0))]⟩, ⟨some 4, none, .alloc 34 [(.int .i64 (.ofNat 0))]⟩])
abbrev f24_0 : FC := (Z1 <| fo (Zr 22 [(.v (.pointer none))]) (St 2) <| fo (Zr 66 [(.int .i64 (.ofNat 0)), (.int .i64 (.ofNat 0))]) (St 3) <| fo (Zr 34 [(.int .i64 (.ofNat 0))]) (St 4) <| Z2)
abbrev c24_1 : CC := (.ops [⟨some 8, none, .mv (.t 0)⟩, ⟨some 9, none, .call (.d (.v (.func (.func 43) #[] #[]))) [(.t 8)]⟩, ⟨some 7, none, .mv (.t 9)⟩, ⟨some 10, none, .ext 0 (.t 7)⟩, ⟨some 11, none, .ext 1 (.t 7)⟩, ⟨some 12, none, .ext 2 (.t 7)⟩, ⟨some 5, none, .mv (.t 10)⟩, ⟨none, none, .st 2 (.t 3) (.t 11)⟩, ⟨none, none, .st 1 (.t 4) (.t 12)⟩])
abbrev f24_1 : FC := (Z1 <| mM 0 8 <| mK 43 [(Gt 8)] 9 <| mM 9 7 <| mE 0 7 10 <| mE 1 7 11 <| mE 2 7 12 <| mM 10 5 <| fo (ZE 2 (Gt 3) (Gt 11)) p0 <| mS 4 (Gt 12) <| Z2)
abbrev c24_2 : CC := (.seq (.ops [⟨some 13, none, .ld1 (.t 4)⟩, ⟨some 14, none, .bin .neq 34 (.tmp 13) (.const (.int .i64 (.ofNat 0))) (.t 13) (.d (.int .i64 (.ofNat 0)))⟩]) (.cond (.t 14) (.seq (.draw [[], [0], [0, 1], [1], []] [⟨some 15, none, .ldN 2 (.t 3)⟩, ⟨some 16, none, .ld1 (.t 4)⟩, ⟨none, none, .st 1 (.t 2) (.d (.v (.pointer none)))⟩, ⟨none, none, .st 2 (.t 3) (.t 15)⟩, ⟨none, none, .st 1 (.t 4) (.t 16)⟩]) .ret) .skip))
abbrev f24_2 : FC := (Z0 (Z1 <| mL 4 13 <| fo (mR 34 13 0) (St 14) <| Z2)
 (Z6 (Gt 14) (Z0 (Y1 <| fdr 0 [] 2 (Gt 3) (ZT 2 (Gt 3)) (St 15) <| fdr 1 [0] 1 (Gt 4) (Zh (Gt 4)) (St 16) <| fdl 2 [0, 1] (ZE 1 (Gt 2) (kD (.v (.pointer none)))) p0 <| fdl 3 [1] (ZE 2 (Gt 3) (Gt 15)) p0 <| fdl 4 [] (ZE 1 (Gt 4) (Gt 16)) p0 <| Y2)
 Ze) Z9))
abbrev c24_3 : CC := (.ops [⟨some 17, none, .mkf (.func 44) [] [(.t 2), (.t 3), (.t 4)]⟩, ⟨none, none, .dfr (.t 17)⟩])
abbrev c24_4 : CC := (.ops [⟨some 18, none, .mv (.t 5)⟩, ⟨some 19, none, .build [(.v (.slice none 0 0)), (.v (.slice none 0 0)), (.v (.slice none 0 0)), (.v (.slice none 0 0))] []⟩, ⟨some 20, none, .box 108 (.t 19)⟩, ⟨some 21, none, .build [(.v (.slice none 0 0)), (.int .i64 (.ofNat 0)), (.int .i64 (.ofNat 0)), (.v (.pointer none))] [(0, 1, (.t 18)), (3, 1, (.t 20))]⟩, ⟨some 22, none, .box 129 (.t 21)⟩, ⟨some 6, none, .mv (.t 22)⟩])
abbrev f24_4 : FC := (Z1 <| mM 5 18 <| fo (ZR [(.v (.slice none 0 0)), (.v (.slice none 0 0)), (.v (.slice none 0 0)), (.v (.slice none 0 0))] []) (St 19) <| fo (X0 108 (Gt 19)) (St 20) <| fo (ZR [(.v (.slice none 0 0)), (.int .i64 (.ofNat 0)), (.int .i64 (.ofNat 0)), (.v (.pointer none))] [(0, 1, (Gt 18)), (3, 1, (Gt 20))]) (St 21) <| fo (X0 129 (Gt 21)) (St 22) <| mM 22 6 <| Z2)
abbrev c24_5 : CC := (.ops [⟨some 23, none, .mv (.t 6)⟩, ⟨some 24, none, .call (.d (.v (.func (.func 45) #[] #[]))) [(.t 23)]⟩])
abbrev f24_5 : FC := (Z1 <| mM 6 23 <| mK 45 [(Gt 23)] 24 <| Z2)
abbrev c24_6 : CC := (.ops [⟨some 25, none, .mv (.t 6)⟩, ⟨some 26, none, .nilCheck (.t 25)⟩, ⟨some 27, none, .fa 3 (.t 26)⟩, ⟨some 28, none, .ld1 (.t 27)⟩, ⟨some 29, none, .build [(.int .i64 (.ofNat 0)), (.int .i64 (.ofNat 0))] []⟩, ⟨none, none, .st 1 (.t 2) (.t 28)⟩, ⟨none, none, .st 2 (.t 3) (.t 29)⟩, ⟨none, none, .st 1 (.t 4) (.d (.int .i64 (.ofNat 0)))⟩])
abbrev f24_6 : FC := (Z1 <| mM 6 25 <| mN 25 26 <| mF 3 26 27 <| mL 27 28 <| fo (ZR [(.int .i64 (.ofNat 0)), (.int .i64 (.ofNat 0))] []) (St 29) <| mS 2 (Gt 28) <| fo (ZE 2 (Gt 3) (Gt 29)) p0 <| mS 4 (kI 0) <| Z2)
abbrev c24_7 : CC := .ret
abbrev f24_7 : FC := Ze
abbrev c24B : CC := (.seq c24_4 (.seq c24_5 (.seq c24_6 c24_7)))
abbrev f24B : FC := (Z0 f24_4 (Z0 f24_5 (Z0 f24_6 f24_7)))
abbrev n24 : CFn := ⟨[.c1 2, .cN 3 2, .c1 4], .seq c24_0 (.seq c24_1 (.seq c24_2 (.seq c24_3 c24B)))⟩
abbrev c43 : CC := (.block 0 (.seq (.ops [⟨some 8, none, .bin .eql 20 (.tmp 6) (.const .nilIface) (.t 6) (.d (.v .nilIface))⟩]) (.cond (.t 8) (.ops [⟨some 3, none, .mv (.t 6)⟩]) (.seq (.ops [⟨some 9, none, .tas 126 (.agg [(.int .i64 (.ofNat 0)), (.int .i64 (.ofNat 0)), (.int .i64 (.ofNat 0))]) (.t 6) true⟩, ⟨some 10, none, .ext 1 (.t 9)⟩, ⟨some 11, none, .ext 0 (.t 9)⟩]) (.cond (.t 10) (.seq (.ops [⟨some 4, none, .alloc 126 [(.int .i64 (.ofNat 0)), (.int .i64 (.ofNat 0)), (.int .i64 (.ofNat 0))]⟩, ⟨none, none, .st 3 (.t 4) (.t 11)⟩]) (.draw [[], [], [0, 1], [0, 1], [0, 1, 2, 3], [2, 3], []] [⟨some 12, none, .fa 0 (.t 4)⟩, ⟨some 13, none, .ldN 2 (.t 12)⟩, ⟨some 14, none, .fa 2 (.t 4)⟩, ⟨some 15, none, .ld1 (.t 14)⟩, ⟨none, none, .st 1 (.t 0) (.d (.v (.pointer none)))⟩, ⟨none, none, .st 2 (.t 1) (.t 13)⟩, ⟨none, none, .st 1 (.t 2) (.t 15)⟩])) (.seq (.ops [⟨some 5, none, .mv (.t 6)⟩]) (.ops [⟨some 7, none, .mv (.t 5)⟩, ⟨none, none, .panic (.t 7)⟩])))))))
abbrev f43 : FC := (Zb 0 (Z0 (Z1 <| fo (Zc Yc .eql 20 (.tmp 6) (.const .nilIface) (Gt 6) (kD (.v .nilIface))) (St 8) <| Z2)
 (Z6 (Gt 8) (Z1 <| mM 6 3 <| Z2) (Z0 (Z1 <| fo (u1 (fun x => r_tas 126 (.agg [(.int .i64 (.ofNat 0)), (.int .i64 (.ofNat 0)), (.int .i64 (.ofNat 0))]) x true) (Gt 6)) (St 9) <| mE 1 9 10 <| mE 0 9 11 <| Z2)
 (Z6 (Gt 10) (Z0 (Z1 <| fo (Zr 126 [(.int .i64 (.ofNat 0)), (.int .i64 (.ofNat 0)), (.int .i64 (.ofNat 0))]) (St 4) <| fo (ZE 3 (Gt 4) (Gt 11)) p0 <| Z2)
 (Y1 <| fdo (u1 (YC 0) (Gt 4)) (St 12) <| fdr 1 [] 2 (Gt 12) (ZT 2 (Gt 12)) (St 13) <| fdo (u1 (YC 2) (Gt 4)) (St 14) <| fdr 3 [0, 1] 1 (Gt 14) (Zh (Gt 14)) (St 15) <| fdl 4 [0, 1, 2, 3] (ZE 1 (Gt 0) (kD (.v (.pointer none)))) p0 <| fdl 5 [2, 3] (ZE 2 (Gt 1) (Gt 13)) p0 <| fdl 6 [] (ZE 1 (Gt 2) (Gt 15)) p0 <| Y2)) (Z0 (Z1 <| mM 6 5 <| Z2)
 (Z1 <| mM 5 7 <| fo (u1 Wb (Gt 7)) p0 <| Z2)))))))
structure PT (E : Env) (T : Nat → FFn) : Prop where
  h77 : T 78 = q77
  h78 : T 79 = q78
  h73 : T 74 = q73
  h114 : T 115 = q114
  h117 : T 118 = q117
  h208 : T 209 = XJ
  h155 : T 156 = XL
  h154 : T 155 = XX
  h118 : T 119 = W1
  h115 : T 116 = q115
  h116 : T 117 = q116
  h257 : T 258 = q257
  h258 : T 259 = q258
  h261 : T 262 = q261
  h259 : T 260 = q259
  h218 : T 219 = q218
  h158 : T 159 = q158
  h260 : T 261 = q260
  h213 : T 214 = q213
  h74 : T 75 = q74
  h214 : T 215 = q214
  h216 : T 217 = q216
  h209 : T 210 = q209
  h210 : T 211 = q210
  h211 : T 212 = q211
  h212 : T 213 = q212
  h215 : T 216 = q215
  h156 : T 157 = q156
  h217 : T 218 = q217
  h157 : T 158 = q157
  h75 : T 76 = q75
  h120 : T 121 = q120
  h119 : T 120 = q119
  h76 : T 77 = q76
  h44 : T 45 = q44
  h110 : T 111 = q110
  h150 : T 151 = q150
  h111 : T 112 = q111
  h72 : T 73 = q72
  h70 : T 71 = q70
  h71 : T 72 = q71
  h42 : T 43 = q42
  h149 : T 150 = flib Xx
  h112 : T 113 = flib libCut
  h113 : T 114 = flib libNum
  h24 : T 25 = fslow n24
  d43 : E.dfrs 44 = some (some 6, c43)
  i43 : ∀ (a b e : Nat) (h : H), oInt E Yc .eql 20 (.tmp 6) (.const .nilIface) (.iface 126 (.agg [.int .i64 (.ofNat a), .int .i64 (.ofNat b), .int .i64 (.ofNat e)])) (.v .nilIface) h = .ok (.v (.bool false)) h
  j43 : ∀ (h : H), oInt E Yc .eql 20 (.tmp 6) (.const .nilIface) (.v .nilIface) (.v .nilIface) h = .ok (.v (.bool true)) h
variable {tk : D} {l : List Tok} {lp : Nat} {h : H} {Q : D → H → Prop} {R : Pan}
theorem vcL (P : PT E T) (tks : Toks tk l) (f : Nat) {h : H} {Q : D → H → Prop} {R : Pan} (hq : CE tk l h lp (fun i dep es => Yt l f 1 i dep es) Q R) : VC E T 159 [.ptr lp 0] h Q R :=
  vc158 P.h158 tks (fun hq => (vcE P.h77 P.h78 P.h73 P.h114 P.h117 P.h208 P.h155 P.h154 P.h118 P.h115 P.h116 P.h257 P.h258 P.h261 P.h259 P.h218 P.h158 P.h260 tks f).2 (Nat.le_refl f) (by omega) hq) hq
theorem vcKd (P : PT E T) (tks : Toks tk l) (f : Nat) {h : H} {Q : D → H → Prop} {R : Pan} (hq : CT tk l h lp 0 (fun i dep es ts => Y8 l f i dep es ts) Q R) : VC E T 157 [.ptr lp 0] h Q R :=
  (vcK P.h77 P.h78 P.h73 P.h114 P.h117 P.h208 P.h155 P.h154 P.h118 P.h115 P.h116 P.h257 P.h258 P.h261 P.h213 P.h74 P.h214 P.h216 P.h209 P.h210 P.h211 P.h212 P.h215 P.h156 P.h217 tks (fun g => vcL P tks g) f).1 (Nat.le_refl f) hq
theorem vcW (P : PT E T) (tks : Toks tk l) {f : Nat} (hq : atP tk l (Zg h.mem lp) lp h.next fun i dep lf => (lf ≠ lp ∧ lf < h.next) ∧ Zg h.mem lf = some (.cells 108 [(.v (.slice none 0 0)), (.v (.slice none 0 0)), (.v (.slice none 0 0)), (.v (.slice none 0 0))]) ∧ RES (wholeS l f f [] [] i dep [] []) (FW tk dep h lp lf Q) (GW l h lp lf R)) : VC E T 45 [.ptr lp 0] h Q R :=
  vc44 P.h77 P.h78 P.h73 P.h114 P.h117 P.h208 P.h155 P.h154 P.h118 P.h115 P.h116 P.h257 P.h258 P.h261 P.h74 P.h75 P.h76 P.h44 tks (fun hq => vc76 P.h77 P.h78 P.h73 P.h114 P.h117 P.h208 P.h155 P.h154 P.h118 P.h115 P.h116 P.h257 P.h258 P.h261 P.h74 P.h119 P.h120 P.h76 tks (fun hq => vc120 P.h77 P.h78 P.h73 P.h114 P.h117 P.h208 P.h155 P.h154 P.h118 P.h115 P.h116 P.h257 P.h258 P.h261 P.h157 P.h120 tks (fun hq => vcL P tks f hq) (fun hq => vcKd P tks f hq) hq) hq) hq
inductive PR where
  | ok (F : Fi)
  | err (a b e : Nat)
  | oof
def parseS (s : List Nat) : PR :=
  if 16384 < s.length then .err 1 1 7 else
  match lexS (s.length + 1) s 1 1 [] with
  | none => .oof
  | some (l, a, b, e) =>
    if e = 0 then
      match wholeS l (KK l + l.length + 1) (KK l + l.length + 1) [] [] 0 0 [] [] with
      | .ok (F, _) => .ok F
      | .err j e => .err (Zp l j).line (Zp l j).col e
      | .oof => .err 0 0 0
    else .err a b e
def FileAt (h : H) (l : Nat) (F : Fi) : Prop := l < h.next ∧ ∃ dc ds de dt, Zg h.mem l = some (.cells 108 [dc, ds, de, dt]) ∧ SlR CoR 2 dc F.cs ∧ SlR ScR 3 ds F.ss ∧ SlR ExR 5 de F.es ∧ SlR TyR 8 dt F.ts
abbrev FRA (h h' : H) : Prop := ∀ l : Nat, l < h.next → Zg h'.mem l = Zg h.mem l
def PARSE (h : H) (Q : D → H → Prop) (r : PR) : Prop :=
  match r with
  | .ok F => ∀ h' l, h.next ≤ l → FileAt h' l F → h.next ≤ h'.next → FRA h h' → Q (.tup [.ptr l 0, .agg [.int .i64 (.ofNat 0), .int .i64 (.ofNat 0)], .int .i64 (.ofNat 0)]) h'
  | .oof => False
  | .err a b e => ∀ h', h.next ≤ h'.next → FRA h h' → Q (.tup [.v (.pointer none), .agg [.int .i64 (.ofNat a), .int .i64 (.ofNat b)], .int .i64 (.ofNat e)]) h'
theorem PARSE_ok {F : Fi} (hq : PARSE h Q (.ok F)) {h' : H} {l : Nat} {dc ds de dt : D} (h1 : SlR CoR 2 dc F.cs) (h2 : SlR ScR 3 ds F.ss) (h3 : SlR ExR 5 de F.es) (h4 : SlR TyR 8 dt F.ts) (h5 : Zg h'.mem l = some (.cells 108 [dc, ds, de, dt])) (h6 : l < h'.next) (h7 : h.next ≤ l) (h8 : h.next ≤ h'.next) (h9 : FRA h h') : Q (.tup [.ptr l 0, .agg [.int .i64 (.ofNat 0), .int .i64 (.ofNat 0)], .int .i64 (.ofNat 0)]) h' :=
  hq _ _ h7 ⟨h6, _, _, _, _, h5, h1, h2, h3, h4⟩ h8 h9
theorem PARSE_err {a b e : Nat} (hq : PARSE h Q (.err a b e)) {h' : H} (h8 : h.next ≤ h'.next) (h9 : FRA h h') : Q (.tup [.v (.pointer none), .agg [.int .i64 (.ofNat a), .int .i64 (.ofNat b)], .int .i64 (.ofNat e)]) h' := hq _ h8 h9
theorem e24_0 : X1 c24_0 = f24_0 := rfl
theorem e24_1 : X1 c24_1 = f24_1 := rfl
theorem e24_2 : X1 c24_2 = f24_2 := rfl
theorem e24_B : X1 c24B = f24B := rfl
theorem e43 : X1 c43 = f43 := rfl
theorem St_set {i : Nat} {d : D} {t : Tr D} : t.set i (some d) = St i d t := (pF_eq ..).symm
theorem sl_d24 (P : PT E T) {t : Tr D} {h : H} {Q : D → H → Prop} {R : Pan} (hx : VP E T f24B (St 17 (.func (.func 44) [] [Gt 2 t, Gt 3 t, Gt 4 t]) t) h (fun e t' h' => (∀ i, e ≠ .exit i) ∧ DF E T n24 (some 6) c43 [Gt 2 t, Gt 3 t, Gt 4 t] none t h' Q) (fun d h' => DF E T n24 (some 6) c43 [Gt 2 t, Gt 3 t, Gt 4 t] (some d) t h' Q)) : SL E T n24 (.seq c24_3 c24B) (act t) h Q R := by
  refine sl_dfr (xs := []) (ys := [Gt 2 t, Gt 3 t, Gt 4 t]) rfl rfl rfl e24_B P.d43 rfl (by simp only [AAct.evals, Gt, geq]) ?_
  rw [St_set]
  exact hx
theorem df_43 {a b c : D} {r : Option D} {t : Tr D} {h : H} {Q : D → H → Prop} (hx : VP E T f43 (St 6 (recD r) (St 2 c (St 1 b (St 0 a .nil)))) h (fun e _ h' => (∀ i, e ≠ .exit i) ∧ sC (YR n24 (act t) h') Q) (fun _ _ => False)) : DF E T n24 (some 6) c43 [a, b, c] r t h Q := by
  unfold DF
  rw [e43, show ((start [a, b, c] none).put (some 6) (recD r)).tmps = St 6 (recD r) (St 2 c (St 1 b (St 0 a .nil))) by
    simp only [← St_set]; rfl]
  exact hx
theorem cells_nilp : D.cells (.v (.pointer none)) = [.v (.pointer none)] := rfl
theorem one_nilp : (D.v (.pointer none)).one = true := rfl
theorem exit_no1 : (∀ i, AExit.normal ≠ .exit i) ↔ True := ⟨fun _ => trivial, fun _ i h => by cases h⟩
theorem exit_no2 : (∀ i, AExit.ret ≠ .exit i) ↔ True := ⟨fun _ => trivial, fun _ i h => by cases h⟩
theorem recD_some {d : D} : recD (some d) = d := rfl
theorem recD_none : recD none = .v .nilIface := rfl
theorem vc24 (P : PT E T) {s : List Nat} (hq : PARSE h Q (parseS s)) : VC E T 25 [.str s] h Q R := by
  refine vc_slow P.h24 ?_
  show SL E T n24 (.seq c24_0 (.seq c24_1 (.seq c24_2 (.seq c24_3 c24B)))) (act (fargs 0 [St 0] [.str s] .nil)) h Q R
  by_cases h0 : 16384 < s.length
  · rw [parseS, if_pos h0] at hq
    repeat' (with_reducible (first | refine Zk ?_ | refine Zl ?_ | refine ZG ?_ | refine ZF ?_ | refine Zn ?_ | refine Zd ?_ | refine Zm ?_ | refine ZH ?_ | refine Zy ?_ | refine Zi ?_ | refine Zz ?_ | refine sl_seq e24_0 ?_ | refine sl_seq e24_1 ?_ | refine sl_seq e24_2 ?_ | refine sl_d24 P ?_ | refine df_43 ?_ | refine vc42 P.h149 P.h112 P.h113 P.h110 P.h150 P.h111 P.h72 P.h70 P.h71 P.h42 ?_ | simp (maxSteps := 2000000) (disch := first | assumption | omega | (simp only [Z4, Z3, List.length_cons, List.length_nil, List.length_append, List.length_take, List.length_drop]; omega) | fail) only [go_sem, -Int.reduceOfNat, *, FLX, FW, GW, P.i43, P.j43, LEX_some, and_assoc, exists_and_left, D.str.injEq, Nat.lt_irrefl, true_implies, false_implies, implies_true, D.agg.injEq, forall_const, exit_no1, exit_no2, recD_some, recD_none, cells_nilp, one_nilp, Option.some.injEq, AObj.cells.injEq, D.int.injEq, D.ptr.injEq, Int.ofNat.injEq, exists_eq_left'] | ((first | refine ZL ?_ ?_ | refine ZC ?_ ?_ | refine ZK ?_ ?_ | refine ZA ?_ ?_ | refine ZB ?_ ?_ | refine Zj ?_ ?_) <;> intro _) | (show Q _ _; refine PARSE_err hq ?_ ?_) | assumption | exact trivial | (intro _; intros) | (show _ < _; omega) | (show _ ≤ _; omega) | (show ¬ (_ : Nat) = _; omega) | (show (_ : Nat) ≠ _; omega) | (show (_ : Nat) = _; omega) | refine And.intro ?_ ?_ | fail))
  · rw [parseS, if_neg h0] at hq
    have hfu : lexS (s.length + 1) s 1 1 [] ≠ none := fun hn => by rw [hn] at hq; exact hq
    obtain ⟨⟨l, a, b, e⟩, hl⟩ := Option.ne_none_iff_exists'.1 hfu
    rw [hl] at hq
    simp only at hq
    by_cases he : e = 0
    · subst he
      rw [if_pos rfl] at hq
      obtain ⟨rfl, rfl, hlen, pre, u, v, rfl⟩ := lex_end hl
      have hmo : Ye (pre ++ [⟨3, [], 0, u, v⟩]) := more_end
      generalize hlg : pre ++ [(⟨3, [], 0, u, v⟩ : Tok)] = l at hl hq hmo hlen
      have hl1 : 0 < l.length := by rw [← hlg]; simp
      have hl2 : l.length ≤ 1000000 := by simp only [List.length_nil] at hlen; omega
      have htk : ∀ d, SlR TokR 5 d l → Toks d l := fun d hd => toks_of hd hl2 hmo
      have hwf := whole_fuel hmo (f := KK l + l.length + 1) (by omega) (g := KK l + l.length + 1) (cs := []) (ss := []) (i := 0) (dep := 0) (es := []) (ts := []) hl1 (by omega)
      cases hw : wholeS l (KK l + l.length + 1) (KK l + l.length + 1) [] [] 0 0 [] [] with
      | oof => exact absurd hw hwf
      | ok a =>
        obtain ⟨F, i⟩ := a
        rw [hw] at hq
        simp only at hq
        clear hwf hfu
        repeat' (with_reducible (first | refine Zk ?_ | refine Zl ?_ | refine ZG ?_ | refine ZF ?_ | refine Zn ?_ | refine Zd ?_ | refine Zm ?_ | refine ZH ?_ | refine Zy ?_ | refine Zi ?_ | refine Zz ?_ | refine sl_seq e24_0 ?_ | refine sl_seq e24_1 ?_ | refine sl_seq e24_2 ?_ | refine sl_d24 P ?_ | refine df_43 ?_ | refine vc42 P.h149 P.h112 P.h113 P.h110 P.h150 P.h111 P.h72 P.h70 P.h71 P.h42 ?_ | refine vcW P (htk _ (by assumption)) (f := KK l + l.length + 1) ?_ | simp (maxSteps := 2000000) (disch := first | assumption | omega | (simp only [Z4, Z3, List.length_cons, List.length_nil, List.length_append, List.length_take, List.length_drop]; omega) | fail) only [go_sem, -Int.reduceOfNat, *, FLX, FW, GW, P.i43, P.j43, LEX_some, and_assoc, exists_and_left, D.str.injEq, Nat.lt_irrefl, true_implies, false_implies, implies_true, D.agg.injEq, forall_const, exit_no1, exit_no2, recD_some, recD_none, cells_nilp, one_nilp, Option.some.injEq, AObj.cells.injEq, D.int.injEq, D.ptr.injEq, Int.ofNat.injEq, exists_eq_left'] | ((first | refine ZL ?_ ?_ | refine ZC ?_ ?_ | refine ZK ?_ ?_ | refine ZA ?_ ?_ | refine ZB ?_ ?_ | refine Zj ?_ ?_) <;> intro _) | (show Q _ _; refine PARSE_ok hq (by assumption) (by assumption) (by assumption) (by assumption) ?_ ?_ ?_ ?_ ?_) | assumption | exact trivial | (intro _; intros) | (show _ < _; omega) | (show _ ≤ _; omega) | (show ¬ (_ : Nat) = _; omega) | (show (_ : Nat) ≠ _; omega) | (show (_ : Nat) = _; omega) | refine And.intro ?_ ?_ | fail))
      | err j e =>
        rw [hw] at hq
        simp only at hq
        clear hwf hfu
        repeat' (with_reducible (first | refine Zk ?_ | refine Zl ?_ | refine ZG ?_ | refine ZF ?_ | refine Zn ?_ | refine Zd ?_ | refine Zm ?_ | refine ZH ?_ | refine Zy ?_ | refine Zi ?_ | refine Zz ?_ | refine sl_seq e24_0 ?_ | refine sl_seq e24_1 ?_ | refine sl_seq e24_2 ?_ | refine sl_d24 P ?_ | refine df_43 ?_ | refine vc42 P.h149 P.h112 P.h113 P.h110 P.h150 P.h111 P.h72 P.h70 P.h71 P.h42 ?_ | refine vcW P (htk _ (by assumption)) (f := KK l + l.length + 1) ?_ | simp (maxSteps := 2000000) (disch := first | assumption | omega | (simp only [Z4, Z3, List.length_cons, List.length_nil, List.length_append, List.length_take, List.length_drop]; omega) | fail) only [go_sem, -Int.reduceOfNat, *, FLX, FW, GW, P.i43, P.j43, LEX_some, and_assoc, exists_and_left, D.str.injEq, Nat.lt_irrefl, true_implies, false_implies, implies_true, D.agg.injEq, forall_const, exit_no1, exit_no2, recD_some, recD_none, cells_nilp, one_nilp, Option.some.injEq, AObj.cells.injEq, D.int.injEq, D.ptr.injEq, Int.ofNat.injEq, exists_eq_left'] | ((first | refine ZL ?_ ?_ | refine ZC ?_ ?_ | refine ZK ?_ ?_ | refine ZA ?_ ?_ | refine ZB ?_ ?_ | refine Zj ?_ ?_) <;> intro _) | (show Q _ _; refine PARSE_err hq ?_ ?_) | assumption | exact trivial | (intro _; intros) | (show _ < _; omega) | (show _ ≤ _; omega) | (show ¬ (_ : Nat) = _; omega) | (show (_ : Nat) ≠ _; omega) | (show (_ : Nat) = _; omega) | refine And.intro ?_ ?_ | fail))
    · rw [if_neg he] at hq
      repeat' (with_reducible (first | refine Zk ?_ | refine Zl ?_ | refine ZG ?_ | refine ZF ?_ | refine Zn ?_ | refine Zd ?_ | refine Zm ?_ | refine ZH ?_ | refine Zy ?_ | refine Zi ?_ | refine Zz ?_ | refine sl_seq e24_0 ?_ | refine sl_seq e24_1 ?_ | refine sl_seq e24_2 ?_ | refine sl_d24 P ?_ | refine df_43 ?_ | refine vc42 P.h149 P.h112 P.h113 P.h110 P.h150 P.h111 P.h72 P.h70 P.h71 P.h42 ?_ | simp (maxSteps := 2000000) (disch := first | assumption | omega | (simp only [Z4, Z3, List.length_cons, List.length_nil, List.length_append, List.length_take, List.length_drop]; omega) | fail) only [go_sem, -Int.reduceOfNat, *, FLX, FW, GW, P.i43, P.j43, LEX_some, and_assoc, exists_and_left, D.str.injEq, Nat.lt_irrefl, true_implies, false_implies, implies_true, D.agg.injEq, forall_const, exit_no1, exit_no2, recD_some, recD_none, cells_nilp, one_nilp, Option.some.injEq, AObj.cells.injEq, D.int.injEq, D.ptr.injEq, Int.ofNat.injEq, exists_eq_left'] | ((first | refine ZL ?_ ?_ | refine ZC ?_ ?_ | refine ZK ?_ ?_ | refine ZA ?_ ?_ | refine ZB ?_ ?_ | refine Zj ?_ ?_) <;> intro _) | (show Q _ _; refine PARSE_err hq ?_ ?_) | assumption | exact trivial | (intro _; intros) | (show _ < _; omega) | (show _ ≤ _; omega) | (show ¬ (_ : Nat) = _; omega) | (show (_ : Nat) ≠ _; omega) | (show (_ : Nat) = _; omega) | refine And.intro ?_ ?_ | fail))
end Run
end Go.Abs
