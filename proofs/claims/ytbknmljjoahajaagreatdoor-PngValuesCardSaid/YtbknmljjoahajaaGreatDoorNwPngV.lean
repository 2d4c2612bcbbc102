/- The fixed examples of layer 24 hold, in every world in which the listed variables lie as they are laid. -/
import Derived.Test.YtbknmljjoahajaaGreatDoorNwUsedW
import Derived.Test.YtbknmljjoahajaaGreatDoorNwPngL
import Derived.Test.YtbknmljjoahajaaGreatDoorNwPngP
import Derived.Test.YtbknmljjoahajaaGreatDoorNwPngR
import Derived.Test.YtbknmljjoahajaaGreatDoorNwPng0
import Derived.Test.YtbknmljjoahajaaGreatDoorNwPngW
import Derived.Test.YtbknmljjoahajaaGreatDoorNwValC
import Derived.Test.YtbknmljjoahajaaGreatDoorNwTree
set_option linter.unusedVariables false
namespace Go.Abs
namespace Run
open Go.Proofs Go.RowKit
theorem png51 : LibSim Tryz.prog 51 (libRun [png_text] png_lexed) glob := libRun_sim (k := 12) told0 tab0_ok glob_tree (enters_of Tryz.func51 (by kernel_rfl) rfl) (by kernel_rfl) png_lex_run
theorem png_told1 : Told Tryz.prog glob png_env1 := told_more told0 png51
theorem png19 : LibSim Tryz.prog 19 (libRun [png_text] png_parsed) glob := libRun_sim (k := 40) png_told1 (tab_over TA_ok png_libs1) glob_tree (enters_of Tryz.func19 (by kernel_rfl) rfl) (by kernel_rfl) png_parse_run
theorem png_told2 : Told Tryz.prog glob png_env2 := told_more told0 png19
theorem png181 : LibSim Tryz.prog 181 (libRun [png_file] png_shown) glob := libRun_sim (k := 40) png_told2 (tab_over TA_ok png_libs2) glob_tree (enters_of Tryz.func181 (by kernel_rfl) rfl) (by kernel_rfl) png_show_run
def png_nms : List (List D × D) := [([png_file, .int .i64 (.ofNat 0)], .v (.slice none 0 0)), ([png_file, .int .i64 (.ofNat 1)], .sl 0 1 [.int .i64 (.ofNat 0)]), ([png_file, .int .i64 (.ofNat 2)], .sl 0 1 [.int .i64 (.ofNat 1)])]
theorem png106 : LibSim Tryz.prog 106 (runs png_nms) glob := runs_sim fun x hx => by
  have one : ∀ {i : Nat} {t : D}, isTree (fcall env0 tab0 100000 106 [png_file, .int .i64 (.ofNat i)] hTop) Tryz.prog 40 t = true → allTree Tryz.prog 40 [png_file, .int .i64 (.ofNat i)] = true → LibSim Tryz.prog 106 (libRun [png_file, .int .i64 (.ofNat i)] t) glob := fun h1 h2 =>
    libRun_sim (k := 40) told0 tab0_ok glob_tree (enters_of Tryz.func106 (by kernel_rfl) rfl) h2 h1
  unfold png_nms at hx
  simp only [List.mem_cons, List.not_mem_nil, or_false] at hx
  rcases hx with rfl | rfl | rfl
  · exact one png_named0 (by kernel_rfl)
  · exact one png_named1 (by kernel_rfl)
  · exact one png_named2 (by kernel_rfl)
noncomputable def png_libsN (f : Nat) : Option (List D → H → O D) := bif Nat.beq f 106 then some (runs png_nms) else libs0 f
noncomputable def png_envN : Env := envOf Tryz.prog glob png_libsN
noncomputable def png_tabN : Nat → FFn := tover png_libsN TA
theorem png_toldN : Told Tryz.prog glob png_envN := told_runs told0 png106
def png_nm (i : Nat) : List Nat := bif Nat.beq i 0 then [] else [i - 1]
theorem png_fileEq : ∃ c ss rest, png_file = .ep (c :: .sl 0 3 ss :: rest) := ⟨_, _, _, rfl⟩
theorem png_t105 : png_tabN 105 = k105 := by kernel_rfl
theorem png_ok0 (h : H) : runs png_nms [png_file, iD 0] h = .ok (nmD (png_nm 0)) h := by kernel_rfl
theorem png_ok1 (h : H) : runs png_nms [png_file, iD 1] h = .ok (nmD (png_nm 1)) h := by kernel_rfl
theorem png_ok2 (h : H) : runs png_nms [png_file, iD 2] h = .ok (nmD (png_nm 2)) h := by kernel_rfl
theorem png_ok (i : Nat) (hi : i < 3) (h : H) : runs png_nms [png_file, iD i] h = .ok (nmD (png_nm i)) h :=
  match i, hi with
  | 0, _ => png_ok0 h
  | 1, _ => png_ok1 h
  | 2, _ => png_ok2 h
theorem png59 : LibSim Tryz.prog 59 (libRun [png_file] png_used) glob := by
  obtain ⟨c, ss, rest, hF⟩ := png_fileEq
  exact used_sim (k := 40) png_toldN (tab_over TA_ok png_libsN) png_t105 (lf := runs png_nms) rfl png_file c ss rest 3 hF (by decide) (by decide) png_nm
    (fun i hi k hk => by
      match i, hi with
      | 0, _ => cases hk
      | 1, _ => exact (List.mem_singleton.1 (show k ∈ [0] from hk)) ▸ (by decide)
      | 2, _ => exact (List.mem_singleton.1 (show k ∈ [1] from hk)) ▸ (by decide))
    (fun i hi => by
      match i, hi with
      | 0, _ => decide
      | 1, _ => decide
      | 2, _ => decide) png_ok [0, 1, 2] (by decide) (by decide) (by kernel_rfl)
theorem png_told3 : Told Tryz.prog glob png_env3 := told_more (told_more (told_more told0 png59) png181) png19
theorem png54 : LibSim Tryz.prog 54 (libRun [png_file] okT) glob := libRun_sim (k := 40) png_told3 (tab_over TA_ok png_libs3) glob_tree (enters_of Tryz.func54 (by kernel_rfl) rfl) (by kernel_rfl) png_right_run
theorem png103 : LibSim Tryz.prog 103 (libRun [png_file] (.int .i64 2)) glob := libRun_sim (k := 40) png_told3 (tab_over TA_ok png_libs3) glob_tree (enters_of Tryz.func103 (by kernel_rfl) rfl) (by kernel_rfl) png_root_run
theorem png24 : LibSim Tryz.prog 24 (libRun [png_file] png_canon) glob := libRun_sim (k := 40) png_told3 (tab_over TA_ok png_libs3) glob_tree (enters_of Tryz.func24 (by kernel_rfl) rfl) (by kernel_rfl) png_canon_run
theorem lib327 : LibSim Tryz.prog 327 (libRun [] crc_table) glob := libRun_sim (k := 4) told0 tab0_ok glob_tree (enters_of Tryz.func327 (by kernel_rfl) rfl) rfl made_run
theorem png_told4 : Told Tryz.prog glob png_env4 := told_more (told_more (told_more (told_more (told_more (told_more (told_more told0 lib327) png24) png103) png54) png59) png181) png19
theorem wakes24_any (w : World) (hg : Holds glob w) : Calls Tryz.prog 29 #[] w fun e w' => e = .returned (.bool true) ∧ Below w.heap.size w w' :=
  top_true png_told4 (tab_over TA_ok png_libs4) png_wakes_run hg (enters_of Tryz.func29 (by kernel_rfl) rfl)
end Run
end Go.Abs
namespace Go.Abs
namespace Run
open Go.Proofs Go.RowKit
theorem png_text_run : isTree (fcall env0 tab0 100000 30 [] hTop) Tryz.prog 4 png_text = true := by kernel_rfl
theorem png_ref_run : isTree (fcall env0 tab0 100000 31 [] hTop) Tryz.prog 4 png_text = true := by kernel_rfl
def yes : D := .v (.bool true)
theorem isTree_T {o : O D} {P : Program} (h : isT o = true) : isTree o P 4 yes = true := by
  obtain ⟨h', rfl⟩ := isT_eq h
  rfl
theorem png29 : LibSim Tryz.prog 29 (libRun [] yes) glob := libRun_sim (k := 4) png_told4 (tab_over TA_ok png_libs4) glob_tree (enters_of Tryz.func29 (by kernel_rfl) rfl) rfl (isTree_T png_wakes_run)
theorem png30 : LibSim Tryz.prog 30 (libRun [] png_text) glob := libRun_sim (k := 4) told0 tab0_ok glob_tree (enters_of Tryz.func30 (by kernel_rfl) rfl) rfl png_text_run
theorem png31 : LibSim Tryz.prog 31 (libRun [] png_text) glob := libRun_sim (k := 4) told0 tab0_ok glob_tree (enters_of Tryz.func31 (by kernel_rfl) rfl) rfl png_ref_run
noncomputable def png_libs6 (f : Nat) : Option (List D → H → O D) := bif Nat.beq f 29 then some (libRun [] yes) else bif Nat.beq f 30 then some (libRun [] png_text) else bif Nat.beq f 31 then some (libRun [] png_text) else libs0 f
noncomputable def png_env6 : Env := envOf Tryz.prog glob png_libs6
noncomputable def png_tab6 : Nat → FFn := tover png_libs6 TA
theorem png_told6 : Told Tryz.prog glob png_env6 := told_more (told_more (told_more told0 png31) png30) png29
def strOf : D → List Nat
  | .str s => s
  | _ => []
theorem png_text_str : png_text = .str (strOf png_text) := rfl
theorem png_tb : Tb png_tab6 (strOf png_text) where
  h6 := by kernel_rfl
  h21 := by kernel_rfl
  h26 := by kernel_rfl
  h27 := by kernel_rfl
  h28 := by kernel_rfl
  h29 := by kernel_rfl
  h30 := by kernel_rfl
  h31 := by kernel_rfl
  h32 := by kernel_rfl
  h33 := by kernel_rfl
  h34 := by kernel_rfl
  h35 := by kernel_rfl
  h67 := by kernel_rfl
  h68 := by kernel_rfl
  h69 := by kernel_rfl
  h70 := by kernel_rfl
  h71 := by kernel_rfl
  h72 := by kernel_rfl
  h73 := by kernel_rfl
  h74 := by kernel_rfl
  h75 := by kernel_rfl
  h113 := by kernel_rfl
def rawN (ss : List (Int × ByteArray)) : List SC := ss.map fun p => (p.1.toNat, strD p.2)
theorem rawC {ss : List (Int × ByteArray)} (hw : ∀ p ∈ ss, (Lit.int .u32 p.1).wf = true) : rowsD (ss.map (row2 .u32)) = secC (rawN ss) := by
  induction ss with
  | nil => rfl
  | cons p r ih =>
    have h1 := ih fun q hq => hw q (List.mem_cons_of_mem _ hq)
    have h2 := hw p (List.mem_cons_self ..)
    have h3 : 0 ≤ p.1 := by
      simp [Lit.wf] at h2
      exact h2.1
    have e : (Int.ofNat p.1.toNat) = p.1 := Int.toNat_of_nonneg h3
    simp only [rowsD, secC, rawN, List.map_cons, List.flatMap_cons, row2, simp1, Option.getD_some, List.map_nil, e] at h1 ⊢
    rw [h1]
theorem globs_simp : ∀ i cs, glob i = some cs → ∀ d ∈ cs, simpD d = true := by
  intro i cs hi
  unfold glob at hi
  rcases bif_some hi with ⟨_, rfl⟩ | hi
  · exact fun d hd => List.all_eq_true.1 (by kernel_rfl) d hd
  rcases bif_some hi with ⟨_, rfl⟩ | hi
  · exact fun d hd => List.all_eq_true.1 (by kernel_rfl) d hd
  cases hi
theorem png_world {w : World} {lv : Value} {ss : List (Int × ByteArray)} (hl : RowsAt w lv 2 (ss.map (row2 .u32))) (hw : ∀ p ∈ ss, (Lit.int .u32 p.1).wf = true) (hg : Holds glob w) {a b : Int} (ha : (Lit.int .u64 a).wf = true) (hb : (Lit.int .u64 b).wf = true) :
    Calls Tryz.prog 6 #[lv, .int .u64 a, .int .u64 b] w fun e w' => e = .returned (.bool true) ∧ Below w.heap.size w w' := by
  have ok := ov_none w
  obtain ⟨ld, h1, h2⟩ := rows_D ok hl (fun r hr => by obtain ⟨v, _, rfl⟩ := List.mem_map.1 hr; rfl) (fun r hr u hu => by
    obtain ⟨v, _, rfl⟩ := List.mem_map.1 hr
    simp only [row2, List.mem_cons, List.not_mem_nil, or_false] at hu
    rcases hu with rfl | rfl <;> rfl)
  have hlen : (rawN ss).length = (ss.map (row2 .u32)).length := by simp [rawN]
  have hld : RowD ld (rawN ss).length (secC (rawN ss)) := by
    rw [rawC hw] at h1
    rcases h1 with ⟨h1, rfl⟩ | rfl
    · have : ss = [] := by simpa using h1
      subst this
      exact .inl ⟨rfl, rfl, rfl⟩
    · exact .inr ⟨0, by rw [hlen]⟩
  have hr : ∀ p ∈ rawN ss, p.1 ≤ 4294967295 := by
    intro p hp
    obtain ⟨q, hq, rfl⟩ := List.mem_map.1 hp
    have h3 := hw q hq
    simp [Lit.wf] at h3
    have h4 : q.1 ≤ 4294967295 := h3.2
    show q.1.toNat ≤ _
    omega
  have nn : ∀ {x : Int}, (Lit.int .u64 x).wf = true → ∃ n : Nat, x = Int.ofNat n := fun {x} h => by
    simp [Lit.wf] at h
    exact ⟨x.toNat, (Int.toNat_of_nonneg h.1).symm⟩
  obtain ⟨na, rfl⟩ := nn ha
  obtain ⟨nb, rfl⟩ := nn hb
  obtain ⟨o, he, ho⟩ := vc6 (E := png_env6) png_tb (rawN ss) ld hld hr na nb hTop
  cases o with
  | panic d h' => exact ho.elim
  | fail w => exact ho.elim
  | ok d0 h0 =>
    refine (world_calls (Q := fun x h' => x = .v (.bool true)) png_told6 (tab_over TA_ok png_libs6) (glob_W hg globs_simp) ok ⟨d0, h0, he, ho⟩ (.cons h2 (.cons (.int _ _) (.cons (.int _ _) (.nil _)))) (enters_of Tryz.func6 (by kernel_rfl) rfl)).mono ?_
    rintro e w' ⟨d, h', v, g', rfl, rfl, _, hv', hb, _⟩
    cases hv'
    exact ⟨rfl, hb⟩
end Run
end Go.Abs
