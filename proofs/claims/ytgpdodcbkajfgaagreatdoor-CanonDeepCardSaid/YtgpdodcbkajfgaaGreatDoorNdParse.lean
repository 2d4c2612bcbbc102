/- The reading of a text, at this program: by rules. -/
import Derived.Test.YtgpdodcbkajfgaaGreatDoorNeTree
import Derived.Test.YtgpdodcbkajfgaaGreatDoorNeCut
import Derived.Test.YtgpdodcbkajfgaaGreatDoorNdTable
import Derived.Test.YtgpdodcbkajfgaaGreatDoorNdLibS
set_option linter.unusedVariables false
set_option linter.unusedSimpArgs false
namespace Go.Abs
namespace Run
open Go.Proofs Go.RowKit
noncomputable def libsP (f : Nat) : Option (List D → H → O D) :=
  bif Nat.beq f 150 then some Xx else
  bif Nat.beq f 113 then some libCut else
  bif Nat.beq f 114 then some libNum else
  none
theorem sim114 : Y4 Tryz.prog 114 libNum glob := fun ds h p d h' hr => by
  unfold libNum at hr
  split at hr
  · rw [show okN _ = false from rfl] at hr
    cases p <;> cases hr
  · cases p <;> cases hr
theorem libNum_grow : ∀ ds h, Xm h (libNum ds h) := fun ds h => XN fun p d h' hr => by
  unfold libNum at hr
  split at hr
  · rw [show okN _ = false from rfl] at hr
    cases p <;> cases hr
  · cases p <;> cases hr
theorem toldP : Told Tryz.prog glob (envOf Tryz.prog glob libsP) := by
  refine told Tryz.prog glob libsP follows' (fun f lf h => ?_) (fun f lf h => ?_)
  all_goals
    unfold libsP at h
    rcases Yv h with ⟨hf, rfl⟩ | h
    rotate_left
    rcases Yv h with ⟨hf, rfl⟩ | h
    rotate_left
    rcases Yv h with ⟨hf, rfl⟩ | h
    rotate_left
    · cases h
  · rw [Nat.eq_of_beq_eq_true hf]; exact sim150
  · rw [Nat.eq_of_beq_eq_true hf]; exact sim113
  · rw [Nat.eq_of_beq_eq_true hf]; exact sim114
  · exact libTrim_grow
  · exact below_grow fun ds h p d h' ho => (libCut_same ho).2.1
  · exact libNum_grow
noncomputable def envP : Env := envOf Tryz.prog glob libsP
noncomputable def X8 : Nat → FFn := tover libsP TA
theorem ph77 : X8 78 = q77 := by kernel_rfl
theorem ph78 : X8 79 = q78 := by kernel_rfl
theorem ph73 : X8 74 = q73 := by kernel_rfl
theorem ph114 : X8 115 = q114 := by kernel_rfl
theorem ph117 : X8 118 = q117 := by kernel_rfl
theorem ph208 : X8 209 = XJ := by kernel_rfl
theorem ph155 : X8 156 = XL := by kernel_rfl
theorem ph154 : X8 155 = XX := by kernel_rfl
theorem ph118 : X8 119 = W1 := by kernel_rfl
theorem ph115 : X8 116 = q115 := by kernel_rfl
theorem ph116 : X8 117 = q116 := by kernel_rfl
theorem ph257 : X8 258 = q257 := by kernel_rfl
theorem ph258 : X8 259 = q258 := by kernel_rfl
theorem ph261 : X8 262 = q261 := by kernel_rfl
theorem ph259 : X8 260 = q259 := by kernel_rfl
theorem ph218 : X8 219 = q218 := by kernel_rfl
theorem ph158 : X8 159 = q158 := by kernel_rfl
theorem ph260 : X8 261 = q260 := by kernel_rfl
theorem ph213 : X8 214 = q213 := by kernel_rfl
theorem ph74 : X8 75 = q74 := by kernel_rfl
theorem ph214 : X8 215 = q214 := by kernel_rfl
theorem ph216 : X8 217 = q216 := by kernel_rfl
theorem ph209 : X8 210 = q209 := by kernel_rfl
theorem ph210 : X8 211 = q210 := by kernel_rfl
theorem ph211 : X8 212 = q211 := by kernel_rfl
theorem ph212 : X8 213 = q212 := by kernel_rfl
theorem ph215 : X8 216 = q215 := by kernel_rfl
theorem ph156 : X8 157 = q156 := by kernel_rfl
theorem ph217 : X8 218 = q217 := by kernel_rfl
theorem ph157 : X8 158 = q157 := by kernel_rfl
theorem ph75 : X8 76 = q75 := by kernel_rfl
theorem ph120 : X8 121 = q120 := by kernel_rfl
theorem ph119 : X8 120 = q119 := by kernel_rfl
theorem ph76 : X8 77 = q76 := by kernel_rfl
theorem ph44 : X8 45 = q44 := by kernel_rfl
theorem ph110 : X8 111 = q110 := by kernel_rfl
theorem ph150 : X8 151 = q150 := by kernel_rfl
theorem ph111 : X8 112 = q111 := by kernel_rfl
theorem ph72 : X8 73 = q72 := by kernel_rfl
theorem ph70 : X8 71 = q70 := by kernel_rfl
theorem ph71 : X8 72 = q71 := by kernel_rfl
theorem ph42 : X8 43 = q42 := by kernel_rfl
theorem ph149 : X8 150 = flib Xx := by kernel_rfl
theorem ph112 : X8 113 = flib libCut := by kernel_rfl
theorem ph113 : X8 114 = flib libNum := by kernel_rfl
theorem ph24 : X8 25 = fslow n24 := by kernel_rfl
theorem PTP : PT envP X8 where
  h77 := ph77
  h78 := ph78
  h73 := ph73
  h114 := ph114
  h117 := ph117
  h208 := ph208
  h155 := ph155
  h154 := ph154
  h118 := ph118
  h115 := ph115
  h116 := ph116
  h257 := ph257
  h258 := ph258
  h261 := ph261
  h259 := ph259
  h218 := ph218
  h158 := ph158
  h260 := ph260
  h213 := ph213
  h74 := ph74
  h214 := ph214
  h216 := ph216
  h209 := ph209
  h210 := ph210
  h211 := ph211
  h212 := ph212
  h215 := ph215
  h156 := ph156
  h217 := ph217
  h157 := ph157
  h75 := ph75
  h120 := ph120
  h119 := ph119
  h76 := ph76
  h44 := ph44
  h110 := ph110
  h150 := ph150
  h111 := ph111
  h72 := ph72
  h70 := ph70
  h71 := ph71
  h42 := ph42
  h149 := ph149
  h112 := ph112
  h113 := ph113
  h24 := ph24
  d43 := by kernel_rfl
  i43 := fun a b e h => by kernel_rfl
  j43 := fun h => by kernel_rfl
theorem tabP_ok : Tab envP X8 := tab_over TA_ok libsP
theorem ent25 : ∀ args w, (callFunc 25 args).run Tryz.prog w = .ok (.enter 25 args) w := enters_of Tryz.func25 (by kernel_rfl) rfl
theorem parse_sim {s : List Nat} {F : Fi} (hp : parseS s = .ok F) (hes : F.es = []) (hds : XZ Tryz.prog 41 [.str s] = true) (hs : D.same (.tup [fiT F, .agg [.int .i64 (.ofNat 0), .int .i64 (.ofNat 0)], .int .i64 (.ofNat 0)]) (.tup [fiT F, .agg [.int .i64 (.ofNat 0), .int .i64 (.ofNat 0)], .int .i64 (.ofNat 0)]) = true) : Y4 Tryz.prog 25 (Yp [.str s] (.tup [fiT F, .agg [.int .i64 (.ofNat 0), .int .i64 (.ofNat 0)], .int .i64 (.ofNat 0)])) glob :=
  libVC_sim toldP tabP_ok glob_tree ent25 hds hs (parse_tree1 PTP hp hes)
end Run
end Go.Abs
