/- What the parser lays out, as a tree. -/
import Derived.Test.YtgpdodcbkajfgaaGreatDoorNeH
import Derived.Test.YtgpdodcbkajfgaaGreatDoorNdTree
set_option linter.unusedVariables false
set_option linter.unusedSimpArgs false
namespace Go.Abs
namespace Run
variable {P : Program} {h : H}
theorem optMap_app {f : D → Option D} : ∀ {a b x y : List D}, Yq f a = some x → Yq f b = some y → Yq f (a ++ b) = some (x ++ y)
  | [], b, x, y, h1, h2 => by cases h1; exact h2
  | d :: r, b, x, y, h1, h2 => by
    simp only [Yq] at h1
    cases hd : f d with
    | none => rw [hd] at h1; cases h1
    | some t =>
      cases hr : Yq f r with
      | none => rw [hd, hr] at h1; cases h1
      | some l =>
        rw [hd, hr] at h1
        cases h1
        simp only [List.cons_append, Yq, hd, optMap_app hr h2]
def slT (n : Nat) (cs : List D) : D := bif Nat.beq n 0 then .v (.slice none 0 0) else .sl 0 n cs
theorem rows_tree {α : Type} {F : α → List D → Prop} {tc : α → List D} {f : D → Option D} : ∀ {xs : List α} {cs : List (List D)}, Rows F xs cs → (∀ x ∈ xs, ∀ c, F x c → Yq f c = some (tc x)) → Yq f cs.flatten = some (xs.flatMap tc)
  | [], [], _, _ => rfl
  | [], c :: cs, h, _ => by have := h.1; simp at this
  | x :: xs, [], h, _ => by have := h.1; simp at this
  | x :: xs, c :: cs, h, hF => by
    have h1 := hF x (List.mem_cons_self ..) c (h.2 0 x c rfl rfl)
    have h2 : Rows F xs cs := ⟨by have := h.1; simpa using this, fun i y d e1 e2 => h.2 (i + 1) y d (by simpa using e1) (by simpa using e2)⟩
    simp only [List.flatten_cons, List.flatMap_cons]
    exact optMap_app h1 (rows_tree h2 fun y hy => hF y (List.mem_cons_of_mem _ hy))
theorem slR_tree {α : Type} {F : α → List D → Prop} {z : Nat} {d : D} {xs : List α} {tc : α → List D} {k : Nat} (hF : ∀ x ∈ xs, ∀ c, F x c → Yq (ZM P h k) c = some (tc x)) (hr : SlR F z d xs) : ZM P h (k + 1) d = some (slT xs.length (xs.flatMap tc)) := by
  obtain ⟨cs, r, _, ⟨rfl, rfl⟩ | ⟨id, rfl, hne⟩⟩ := hr
  · rfl
  · have hb : Nat.beq xs.length 0 = false := by
      cases hb : Nat.beq xs.length 0 with
      | false => rfl
      | true => exact absurd (List.length_eq_zero_iff.1 (Nat.eq_of_beq_eq_true hb)) hne
    simp only [ZM, rows_tree r hF, slT, hb, cond_false, r.1]
def itT (x : It) : List D := [.str x.name, .int .i64 x.ty, .int .i64 (.ofNat x.der), .str x.a, .str x.b, .int .i64 x.wh, .int .i64 (.ofNat x.size), .v (.bool x.little), slT x.subs.length (x.subs.flatMap fun s => [.str s.name, .int .i64 (.ofNat s.bits)])]
def scT (x : Sc) : List D := [.str x.name, slT x.params.length (x.params.flatMap fun s => [.str s]), slT x.items.length (x.items.flatMap itT)]
def tyT (x : Ty) : List D := [.int .i64 (.ofNat x.k), .int .i64 (.ofNat x.size), .v (.bool x.little), .str x.name, slT x.args.length (x.args.flatMap fun n => [.int .i64 (.ofNat n)]), .int .i64 x.expr, .int .i64 x.inner, slT x.cases.length (x.cases.flatMap fun c => [.int .u64 (.ofNat c.n), .int .i64 (.ofNat c.ty)])]
def coT (x : Co) : List D := [.str x.name, .int .u64 (.ofNat x.n)]
def exT (x : Ex) : List D := [.int .i64 (.ofNat x.k), .str x.op, .int .u64 (.ofNat x.n), .str x.name, slT x.kids.length (x.kids.flatMap fun n => [.int .i64 (.ofNat n)])]
def fiT (F : Fi) : D := .ep [slT F.cs.length (F.cs.flatMap coT), slT F.ss.length (F.ss.flatMap scT), slT F.es.length (F.es.flatMap exT), slT F.ts.length (F.ts.flatMap tyT)]
theorem it_tree {k : Nat} (x : It) (c : List D) (hc : ItR x c) : Yq (ZM P h (k + 3)) c = some (itT x) := by
  obtain ⟨d, rfl, hs, _⟩ := hc
  have h1 := slR_tree (P := P) (h := h) (k := k + 2) (tc := fun s : Sb => [.str s.name, .int .i64 (.ofNat s.bits)]) (fun s _ c hc => by unfold SbR at hc; subst hc; rfl) hs
  simp only [Yq, h1, itT]
  rfl
theorem sc_tree {k : Nat} (x : Sc) (c : List D) (hc : ScR x c) : Yq (ZM P h (k + 4)) c = some (scT x) := by
  obtain ⟨dp, di, rfl, hp, hi, _, _⟩ := hc
  have h1 := slR_tree (P := P) (h := h) (k := k + 3) (tc := fun s : List Nat => [.str s]) (fun s _ c hc => by unfold StrR at hc; subst hc; rfl) hp
  have h2 := slR_tree (P := P) (h := h) (k := k + 3) (tc := itT) (fun s _ c hc => it_tree (k := k) s c hc) hi
  simp only [Yq, h1, h2, scT]
  rfl
theorem ty_tree {k : Nat} (x : Ty) (c : List D) (hc : TyR x c) : Yq (ZM P h (k + 4)) c = some (tyT x) := by
  obtain ⟨da, dc, rfl, ha, hcs, _, _⟩ := hc
  have h1 := slR_tree (P := P) (h := h) (k := k + 3) (tc := fun n : Nat => [.int .i64 (.ofNat n)]) (fun s _ c hc => by unfold IntR at hc; subst hc; rfl) ha
  have h2 := slR_tree (P := P) (h := h) (k := k + 3) (tc := fun c : Ca => [.int .u64 (.ofNat c.n), .int .i64 (.ofNat c.ty)]) (fun s _ c hc => by unfold CaR at hc; subst hc; rfl) hcs
  simp only [Yq, h1, h2, tyT]
  rfl
theorem co_tree {k : Nat} (x : Co) (c : List D) (hc : CoR x c) : Yq (ZM P h (k + 4)) c = some (coT x) := by
  unfold CoR at hc; subst hc; rfl
theorem file_tree {l : Nat} {F : Fi} (hes : F.es = []) (hf : FileAt h l F) : ZM P h 40 (.ptr l 0) = some (fiT F) := by
  obtain ⟨_, dc, ds, de, dt, hm, h1, h2, h3, h4⟩ := hf
  have e1 : ZM P h 39 dc = _ := slR_tree (P := P) (h := h) (k := 38) (tc := coT) (fun x _ c hc => co_tree (k := 34) x c hc) h1
  have e2 : ZM P h 39 ds = _ := slR_tree (P := P) (h := h) (k := 38) (tc := scT) (fun x _ c hc => sc_tree (k := 34) x c hc) h2
  have e3 : ZM P h 39 de = _ := slR_tree (P := P) (h := h) (k := 38) (tc := exT) (fun x hx c hc => by rw [hes] at hx; cases hx) h3
  have e4 : ZM P h 39 dt = _ := slR_tree (P := P) (h := h) (k := 38) (tc := tyT) (fun x _ c hc => ty_tree (k := 34) x c hc) h4
  rw [Xg] at hm
  rw [show (40 : Nat) = 39 + 1 from rfl, ZM]
  simp only [hm, List.drop_zero, Yq, e1, e2, e3, e4, fiT]
theorem libVC_sim {glob : Nat → Option (List D)} {E : Env} {tab : Nat → FFn} (ht : Told P glob E) (hT : Tab E tab) (hgt : ∀ i cs, glob i = some cs → ∀ d ∈ cs, Tree d) {f k : Nat} {ds0 : List D} {t : D}
    (hent : ∀ args w, (callFunc f args).run P w = .ok (.enter f args) w) (hds : XZ P k ds0 = true) (hs : D.same t t = true) (hv : VC E tab f ds0 hTop (fun d h' => ZM P h' k d = some t) noPan) : Y4 P f (Yp ds0 t) glob := by
  obtain ⟨o, ⟨n, hn⟩, hq⟩ := hv
  have hr := hn n (Nat.le_refl n)
  cases o with
  | fail w => exact hq.elim
  | panic d h' => exact hq.elim
  | ok d h' =>
    have hq' : ZM P h' k d = some t := hq
    refine libRun_sim ht hT hgt hent hds (n := n) (k := k) ?_
    rw [hr]
    show (match ZM P h' k d with | some u => D.same u t | none => false) = true
    rw [hq']
    exact hs
theorem parse_tree1 {E : Env} {tab : Nat → FFn} (PP : PT E tab) {s : List Nat} {F : Fi} (hp : parseS s = .ok F) (hes : F.es = []) : VC E tab 25 [.str s] hTop (fun d h' => ZM P h' 41 d = some (.tup [fiT F, .agg [.int .i64 (.ofNat 0), .int .i64 (.ofNat 0)], .int .i64 (.ofNat 0)])) noPan := by
  refine vc24 PP ?_
  rw [hp]
  intro h' l _ hf _ _
  have e1 := file_tree (P := P) hes hf
  have e2 : ZM P h' 40 (.agg [.int .i64 (.ofNat 0), .int .i64 (.ofNat 0)]) = some (.agg [.int .i64 (.ofNat 0), .int .i64 (.ofNat 0)]) := rfl
  have e3 : ZM P h' 40 (.int .i64 (.ofNat 0)) = some (.int .i64 (.ofNat 0)) := rfl
  show ZM P h' 41 _ = _
  rw [show (41 : Nat) = 40 + 1 from rfl, ZM]
  simp only [Yq, e1, e2, e3]
end Run
end Go.Abs
