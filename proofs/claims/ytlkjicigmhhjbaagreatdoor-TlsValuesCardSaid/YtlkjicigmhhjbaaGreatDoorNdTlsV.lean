/- strings.Repeat, given by hand; the law of tls in the program's own memory. -/
import Derived.Test.YtlkjicigmhhjbaaGreatDoorTlG
import Derived.Test.YtlkjicigmhhjbaaGreatDoorNdKey
import Derived.Test.YtlkjicigmhhjbaaGreatDoorNdTree
import Derived.Test.YtlkjicigmhhjbaaGreatDoorNdTlsS
set_option linter.unusedVariables false
set_option linter.unusedSimpArgs false
namespace Go.Abs
noncomputable section
namespace Run
open Go.Proofs Go.RowKit
theorem Zzx (s : List UInt8) : ∀ c, Zkc (s.map (·.toNat)) c = (Lib.repeatL s c).map (·.toNat)
  | 0 => rfl
  | c + 1 => by simp only [Zkc, Lib.repeatL, List.map_append, Zzx s c]
theorem Zgq {ds : List D} {h h' : H} {p : Bool} {d : D} (ho : Y4 ds h = .mk p d h') : p = false ∧ h' = h ∧ ∃ s k c, ds = [.str s, .int k (.ofNat c)] ∧ k = .i64 ∧ d = .str (Zkc s c) ∧ s.length * c ≤ 140737488355328 ∧ c ≤ 9223372036854775807 := by
  unfold Y4 at ho
  split at ho
  · rename_i s c
    cases hq : Nat.ble (s.length * c) 140737488355328 && Nat.ble c 9223372036854775807 with
    | false => rw [hq] at ho; cases p <;> cases ho
    | true =>
      rw [hq] at ho
      simp only [Bool.and_eq_true] at hq
      cases p with
      | true => cases ho
      | false => cases ho; exact ⟨rfl, rfl, s, _, c, rfl, rfl, rfl, Nat.le_of_ble_eq_true hq.1, Nat.le_of_ble_eq_true hq.2⟩
  · cases p <;> cases ho
theorem sim60 : Yc Tryz.prog 60 Y4 glob := Zl8 (enters_of Tryz.func60 (by kernel_rfl) rfl) fun ds h p d h' ho => by
  obtain ⟨h1, h2, s, k, c, rfl, rfl, rfl, h3, h4⟩ := Zgq ho
  refine ⟨h1, h2, fun g args hargs w => ?_⟩
  obtain ⟨v1, v2, rfl, r1, r2⟩ := hargs.two'
  obtain ⟨b, rfl, rfl⟩ := r1.str'
  rw [r2.int']
  refine ⟨_, ?_, Tryz.strings_Repeat b c w h4 (by simpa [Yo] using h3)⟩
  have := Zzx b.data.toList c
  simp only [Yo]
  rw [this]
  exact .str ⟨(Lib.repeatL b.data.toList c).toArray⟩
theorem Zpt : ∀ ds h, XZ h (Y4 ds h) := Zcl fun ds h p d h' ho => (Zgq ho).2.1
theorem hneT (libs : Nat → Option (List D → H → O D)) : ∀ (b : Bool) (h : H), Zng (Zcc Tryz.prog glob libs) U6 .neq 4 (.tmp 31) (.tmp 32) (.v (.bool b)) (.v (.bool b)) h = .ok (.v (.bool false)) h := by
  intro b h
  cases b <;> kernel_rfl
end Run
end
end Go.Abs
namespace Go.Abs
noncomputable section
namespace Run
open Go.RowKit Go.Deep Go.ChangeShapes Go.WideShapes
def slz (z : Nat) (w : World) : Value → Option D
  | .slice (some a) n cap => bif Nat.ble n cap && (Nat.beq n 0 || a.spot.isNone) then (match Zkb w a.block a.off (n * z) with
    | some cs => some (.sl 0 n cs)
    | none => none) else none
  | _ => none
def Z20 (z : Nat) (w : World) (b o : Nat) : Option D :=
  match w.cell? ⟨b, o, none⟩ with
  | some x => match Zaj x with
    | some _ => none
    | none => slz z w x
  | none => none
def Zci (z : Nat) (w : World) (x : Value) : Option D :=
  match Zaj x with
  | some d => some d
  | none => slz z w x
section
variable {w : World} {z : Nat}
theorem Z7z {ov : Nat → Nat → Option D} (non1 : ∀ b o d, ov b o = some d → cell1 w b o = none) {x : Value} {d : D} (h : slz z w x = some d) : VRel (gW w ov) d x := by
  unfold slz at h
  split at h
  · rename_i a n cap
    cases hq : Nat.ble n cap && (Nat.beq n 0 || a.spot.isNone) with
    | false => rw [hq] at h; cases h
    | true =>
      rw [hq] at h
      simp only [cond_true] at h
      simp only [Bool.and_eq_true, Bool.or_eq_true] at hq
      split at h
      · rename_i cs hcs
        cases h
        refine .sl (Nat.le_of_ble_eq_true hq.1) (fun i d hi => ⟨?_, ?_⟩) (fun e => absurd rfl e)
        · rcases hq.2 with h0 | h0
          · have := Nat.eq_of_beq_eq_true h0
            subst this
            rw [Nat.zero_mul] at hcs
            cases hcs
            simp at hi
          · cases hs : a.spot with
            | none => rfl
            | some s => rw [hs] at h0; cases h0
        · have h1 := Zo1 hcs i d hi
          show (match ov a.block (a.off + i) with
            | some d => some d
            | none => Zky w a.block (a.off + i)) = some d
          cases ho : ov a.block (a.off + i) with
          | some d' => rw [non1 _ _ _ ho] at h1; cases h1
          | none => exact Zsl h1
      · cases h
  · cases h
theorem Zv2 {b o : Nat} {d : D} (h : Z20 z w b o = some d) : cell1 w b o = none := by
  unfold Z20 at h
  unfold cell1
  split at h
  · rename_i x hx
    rw [hx]
    split at h
    · cases h
    · assumption
  · cases h
theorem Zyb (z : Nat) (w : World) : OvOk w (Z20 z w) where
  non1 := fun b o d h => Zv2 h
  cell := fun b o d h => by
    have h0 := h
    unfold Z20 at h
    split at h
    · rename_i x hx
      split at h
      · cases h
      · exact ⟨x, hx, Z7z (fun b o d h => Zv2 h) h⟩
    · cases h
theorem immz {b o : Nat} {x : Value} {d : D} (hx : w.cell? ⟨b, o, none⟩ = some x) (h : Zci z w x = some d) : (gW w (Z20 z w)).imm b o = some d := by
  unfold Zci at h
  split at h
  · rename_i d' hd
    cases h
    refine Zti (Zyb z w) ?_
    unfold cell1
    rw [hx]
    exact hd
  · rename_i hd
    have ho : Z20 z w b o = some d := by
      unfold Z20
      rw [hx]
      simp only [hd]
      exact h
    show (match Z20 z w b o with
      | some d => some d
      | none => Zky w b o) = some d
    rw [ho]
theorem globz_W {glob : Nat → Option (List D)} (hg : Holds glob w) (hs : ∀ i cs, glob i = some cs → ∀ d ∈ cs, Z3w d = true) : XI (gW w (Z20 z w)) glob := fun i cs hc => .ep fun o d hd => by
  obtain ⟨v, h1, h2⟩ := hg i cs o d hc hd
  have h3 := Z71 (hs i cs hc d (List.mem_of_getElem? hd)) h2
  rw [Nat.zero_add]
  refine Zti (Zyb z w) ?_
  unfold cell1
  rw [h1]
  exact h3
def Zo0 (z : Nat) (w : World) (rows : List (List Value)) : List D := rows.flatMap fun r => r.map fun v => (Zci z w v).getD Zj
theorem Zrv {size : Nat} : ∀ {rows : List (List Value)}, (∀ r ∈ rows, r.length = size) → ∀ i d, (Zo0 z w rows)[i]? = some d → ∃ q j r v, rows[q]? = some r ∧ r[j]? = some v ∧ i = q * size + j ∧ d = (Zci z w v).getD Zj
  | [], h, i, d, hi => by simp [Zo0] at hi
  | r :: l, h, i, d, hi => by
    have h0 := h r (List.mem_cons_self ..)
    have e : Zo0 z w (r :: l) = (r.map fun v => (Zci z w v).getD Zj) ++ Zo0 z w l := by simp [Zo0]
    rw [e] at hi
    by_cases hr : i < size
    · rw [List.getElem?_append_left (by simpa [h0] using hr), List.getElem?_map] at hi
      cases hv : r[i]? with
      | none => rw [hv] at hi; cases hi
      | some v =>
        rw [hv] at hi
        cases hi
        exact ⟨0, i, r, v, rfl, hv, by omega, rfl⟩
    · rw [List.getElem?_append_right (by simp [h0]; omega), List.length_map, h0] at hi
      obtain ⟨q, j, r', v, h1, h2, h3, h4⟩ := Zrv (rows := l) (fun r hr => h r (List.mem_cons_of_mem _ hr)) _ d hi
      exact ⟨q + 1, j, r', v, h1, h2, by rw [Nat.succ_mul]; omega, h4⟩
theorem Z8n {v : Value} {size : Nat} {rows : List (List Value)} (hx : Ztv w v size rows) (hsz : ∀ r ∈ rows, r.length = size) (hs : ∀ r ∈ rows, ∀ v ∈ r, (Zci z w v).isSome = true) :
    ∃ d, ((rows = [] ∧ d = .v (.slice none 0 0)) ∨ d = .sl 0 rows.length (Zo0 z w rows)) ∧ VRel (gW w (Z20 z w)) d v := by
  rcases hx with ⟨rfl, rfl⟩ | ⟨a, cap, rfl, h1, h2, h3⟩
  · exact ⟨_, .inl ⟨rfl, rfl⟩, .v _⟩
  refine ⟨_, .inr rfl, .sl h1 ?_ (fun e => absurd rfl e)⟩
  intro i d hi
  obtain ⟨q, j, r, u, g1, g2, rfl, rfl⟩ := Zrv hsz i d hi
  have hne : rows ≠ [] := fun e => by subst e; simp at g1
  refine ⟨h2 hne, ?_⟩
  have h5 := h3 q r g1 j u g2
  have h6 := hs r (List.mem_of_getElem? g1) u (List.mem_of_getElem? g2)
  rw [Nat.add_assoc] at h5
  cases hq : Zci z w u with
  | none => rw [hq] at h6; cases h6
  | some d => exact immz h5 hq
theorem Zvd {b : Nat} : ∀ {m n o : Nat} {x y : List D}, Zkb w b o m = some x → Zkb w b (o + m) n = some y → Zkb w b o (m + n) = some (x ++ y)
  | 0, n, o, x, y, h1, h2 => by cases h1; rw [Nat.zero_add]; exact h2
  | m + 1, n, o, x, y, h1, h2 => by
    unfold Zkb at h1
    split at h1
    · rename_i d r hd hr
      cases h1
      have := Zvd (m := m) (n := n) (o := o + 1) hr (by rw [Nat.add_assoc, Nat.add_comm 1]; exact h2)
      rw [Nat.succ_add]
      unfold Zkb
      rw [hd, this]
      rfl
    · cases h1
theorem Zo2 {b : Nat} : ∀ {r : List Value} {o : Nat}, (∀ j u, r[j]? = some u → w.cell? ⟨b, o + j, none⟩ = some u) → (∀ v ∈ r, (Zaj v).isSome = true) → Zkb w b o r.length = some (r.map fun v => (Zaj v).getD Zj)
  | [], o, h, hs => rfl
  | v :: r, o, h, hs => by
    have h0 : cell1 w b o = some ((Zaj v).getD Zj) := by
      have h1 := h 0 v rfl
      rw [Nat.add_zero] at h1
      unfold cell1
      rw [h1]
      have := hs v (List.mem_cons_self ..)
      cases hq : Zaj v with
      | none => rw [hq] at this; cases this
      | some d => exact hq
    have h2 := Zo2 (r := r) (o := o + 1) (fun j u hj => by
      have := h (j + 1) u (by simpa using hj)
      rw [Nat.add_comm j 1, ← Nat.add_assoc] at this
      exact this) fun v hv => hs v (List.mem_cons_of_mem _ hv)
    show Zkb w b o (r.length + 1) = _
    unfold Zkb
    rw [h0, h2]
    rfl
theorem Zrx {b : Nat} : ∀ {rows : List (List Value)} {o : Nat}, (∀ r ∈ rows, r.length = z) → (∀ i r, rows[i]? = some r → ∀ j u, r[j]? = some u → w.cell? ⟨b, o + i * z + j, none⟩ = some u) → (∀ r ∈ rows, ∀ v ∈ r, (Zaj v).isSome = true) → Zkb w b o (rows.length * z) = some (Zmg rows)
  | [], o, hz, h, hs => by rw [List.length_nil, Nat.zero_mul]; rfl
  | r :: l, o, hz, h, hs => by
    have h1 := Zo2 (r := r) (o := o) (fun j u hj => by
      have := h 0 r rfl j u hj
      rw [Nat.zero_mul, Nat.add_zero] at this
      exact this) (hs r (List.mem_cons_self ..))
    rw [hz r (List.mem_cons_self ..)] at h1
    have h2 := Zrx (rows := l) (o := o + z) (fun r hr => hz r (List.mem_cons_of_mem _ hr)) (fun i r hi j u hj => by
      have := h (i + 1) r (by simpa using hi) j u hj
      rw [Nat.succ_mul] at this
      rw [show o + z + i * z + j = o + (i * z + z) + j by omega]
      exact this) fun r hr => hs r (List.mem_cons_of_mem _ hr)
    rw [List.length_cons, Nat.succ_mul, Nat.add_comm, show Zmg (r :: l) = (r.map fun v => (Zaj v).getD Zj) ++ Zmg l by simp [Zmg]]
    exact Zvd h1 h2
theorem Zy5 {v : Value} {rows : List (List Value)} (hx : Ztv w v z rows) (hsz : ∀ r ∈ rows, r.length = z) (hs : ∀ r ∈ rows, ∀ v ∈ r, (Zaj v).isSome = true) :
    (rows = [] ∧ Zci z w v = some (.v (.slice none 0 0))) ∨ Zci z w v = some (.sl 0 rows.length (Zmg rows)) := by
  rcases hx with ⟨rfl, rfl⟩ | ⟨a, cap, rfl, h1, h2, h3⟩
  · exact .inl ⟨rfl, rfl⟩
  refine .inr ?_
  have hq : (Nat.ble rows.length cap && (Nat.beq rows.length 0 || a.spot.isNone)) = true := by
    simp only [Bool.and_eq_true, Bool.or_eq_true]
    refine ⟨Nat.ble_eq_true_of_le h1, ?_⟩
    cases rows with
    | nil => exact .inl rfl
    | cons r l => exact .inr (by rw [h2 (by simp)]; rfl)
  have h0 := Zrx (o := a.off) hsz h3 hs
  show (match Zaj (.slice (some a) rows.length cap) with
    | some d => some d
    | none => slz z w (.slice (some a) rows.length cap)) = _
  have hsi : Zaj (.slice (some a) rows.length cap) = none := rfl
  rw [hsi]
  unfold slz
  simp only [hq, cond_true, h0]
end
section
variable {H : Type} {enc : TypeId × Value → H} {P : Program} {w : World} {base b0 : Nat} {spare : Nat → Bool} {held : Bool} {r : Reach}
theorem Zx6 {t e : TypeId} {fs : Array Field} (ht : P.underlying t = some (.slice e)) (he : P.underlying e = some (.struct fs)) (ce : P.cellsOf e = fs.size) (hpos : 0 < fs.size) (hfl : ∀ (j : Nat) (f : Field), fs[j]? = some f → f.offset = j ∧ P.cellsOf f.type = 1)
    {fuel : Nat} {v : Value} {x : DataW H × List MemPlace} (hf : DataW.trod enc P w base spare held fuel t [v] = some x) : ∃ rows : List (List Value), Ztv w v fs.size rows ∧ rows.length ≤ maxLen ∧ ∀ row ∈ rows, row.length = fs.size ∧ ∀ (j : Nat) (f : Field), fs[j]? = some f → ∃ u, row[j]? = some u ∧ ∃ fuel x, DataW.trod enc P w base spare held fuel f.type [u] = some x := by
  rcases open_slice ht hf with ⟨hc, _⟩ | ⟨a, len, cap, m, n, D, Pl, hc, hb, hl, hm, hmm, _, hx⟩
  · cases hc; exact ⟨[], .inl ⟨rfl, rfl⟩, Nat.zero_le _, fun x hx => by simp at hx⟩
  cases hc
  have hlm : len ≤ m := by rw [hmm]; split <;> omega
  have each : ∀ i, i < len → ∃ row : List Value, (row.length = fs.size ∧ ∀ (j : Nat) (f : Field), fs[j]? = some f → ∃ u, row[j]? = some u ∧ ∃ fuel x, DataW.trod enc P w base spare held fuel f.type [u] = some x) ∧ Ztw w a (i * fs.size) row := by
    intro i hi
    obtain ⟨cs', h1, h2⟩ := hx i (by omega)
    rw [ce] at h1
    obtain ⟨_, hlen, hcell⟩ := World.cells?_some h1
    obtain ⟨xs, n', _, _, _, hxl, hfs⟩ := DataW.trod_struct he h2
    refine ⟨cs', ⟨hlen, fun j f hj => ?_⟩, fun j u hj => ?_⟩
    · have hjl : j < fs.size := by
        have := (Array.getElem?_eq_some_iff.1 hj).1
        exact this
      have hg : cs'[j]? = some (cs'[j]'(by omega)) := List.getElem?_eq_getElem (by omega)
      refine ⟨_, hg, ?_⟩
      have t0 := hfs j f hj
      obtain ⟨o0, c0⟩ := hfl j f hj
      rw [o0, c0] at t0
      have hd : (cs'.drop j).take 1 = [cs'[j]'(by omega)] := by
        rw [List.drop_eq_getElem_cons (by omega)]; rfl
      rw [hd] at t0
      obtain ⟨z, hz⟩ : ∃ z, xs[j]? = some z := ⟨_, List.getElem?_eq_getElem (by omega)⟩
      rw [hz] at t0
      exact ⟨_, _, t0⟩
    · have hj2 : j < fs.size := by have := (List.getElem?_eq_some_iff.1 hj).1; omega
      exact Zw9 ((hcell j hj2).trans hj)
  have : Inhabited (List Value) := ⟨[]⟩
  obtain ⟨f, hf⟩ := choose_lt each
  refine ⟨(List.range len).map f, .inr ⟨a, cap, by simp, by simpa using hl, ?_, ?_⟩, by simp; omega, ?_⟩
  · intro hne
    have h0 : 0 < len := by
      cases len with
      | zero => exact absurd rfl hne
      | succ n => omega
    obtain ⟨cs', h1, h2⟩ := hx 0 (by omega)
    rw [ce] at h1
    obtain ⟨_, hlen, hcell⟩ := World.cells?_some h1
    have h3 := hcell 0 (by omega)
    rw [Nat.zero_mul] at h3
    have h4 : cs'[0]? = some (cs'[0]'(by omega)) := List.getElem?_eq_getElem (by omega)
    rw [h4] at h3
    exact World.cell?_spot (a := a) h3
  · intro i x hi
    have hil : i < len := by have := (List.getElem?_eq_some_iff.1 hi).1; simpa using this
    rw [List.getElem?_map, List.getElem?_range hil] at hi
    cases hi
    exact (hf i hil).2
  · intro x hx
    obtain ⟨i, hi, rfl⟩ := List.mem_map.1 hx
    exact (hf i (by simpa using hi)).1
end
end Run
end
end Go.Abs
namespace Go.Abs
noncomputable section
namespace Run
open Go.Proofs Go.RowKit Go.Deep Go.ChangeShapes Go.WideShapes
set_option maxRecDepth 100000
theorem u8_lt (s : ByteArray) : ∀ x ∈ Yo s, x < 256 := by
  intro x hx
  unfold Yo at hx
  obtain ⟨b, _, rfl⟩ := List.mem_map.1 hx
  exact b.toNat_lt
theorem Zmu {α : Type} {P : List Value → α → Prop} : ∀ (rows : List (List Value)), (∀ r ∈ rows, ∃ m, P r m) → ∃ ms : List α, ms.length = rows.length ∧ ∀ (i : Nat) (m : α) (r : List Value), ms[i]? = some m → rows[i]? = some r → P r m
  | [], _ => ⟨[], rfl, fun i m r h => by simp at h⟩
  | r :: l, h => by
    obtain ⟨m, hm⟩ := h r (List.mem_cons_self ..)
    obtain ⟨ms, h1, h2⟩ := Zmu l fun r hr => h r (List.mem_cons_of_mem _ hr)
    refine ⟨m :: ms, by simp [h1], fun i m' r' e1 e2 => ?_⟩
    cases i with
    | zero => cases e1; cases e2; exact hm
    | succ i => exact h2 i m' r' (by simpa using e1) (by simpa using e2)
def Z58 (ss : List (Int × ByteArray)) : List (Nat × List Nat) := ss.map fun p => (p.1.toNat, Yo p.2)
theorem ext_SlE {ss : List (Int × ByteArray)} (hw : ∀ p ∈ ss, (Lit.int .u16 p.1).wf = true) {d : D} (hd : (ss.map (Zq9 .u16) = [] ∧ d = .v (.slice none 0 0)) ∨ d = .sl 0 (ss.map (Zq9 .u16)).length (Zmg (ss.map (Zq9 .u16)))) :
    Zrf Z2w 2 d (Z58 ss) ∧ ∀ e ∈ Z58 ss, e.1 < 65536 := by
  have hz : ∀ p ∈ ss, Int.ofNat p.1.toNat = p.1 ∧ p.1.toNat < 65536 := fun p hp => by
    have h2 := hw p hp
    simp [Lit.wf] at h2
    have h3 : 0 ≤ p.1 := h2.1
    have h4 : p.1 ≤ 65535 := h2.2
    exact ⟨Int.toNat_of_nonneg h3, by omega⟩
  refine ⟨⟨ss.map fun p => [D.int .u16 p.1, .str (Yo p.2)], ⟨by simp [Z58], fun i x c e1 e2 => ?_⟩, fun c hc => ?_, ?_⟩, fun e he => ?_⟩
  · simp only [Z58, List.getElem?_map] at e1 e2
    cases hp : ss[i]? with
    | none => rw [hp] at e1; cases e1
    | some p =>
      rw [hp] at e1 e2
      cases e1; cases e2
      unfold Z2w
      rw [(hz p (List.mem_of_getElem? hp)).1]
  · obtain ⟨p, _, rfl⟩ := List.mem_map.1 hc
    rfl
  · rcases hd with ⟨h, rfl⟩ | rfl
    · have : ss = [] := by simpa using h
      subst this
      exact .inl ⟨rfl, rfl⟩
    · refine .inr ⟨0, ?_⟩
      simp only [Zmg, List.flatMap_def, List.map_map, List.length_map]
      rfl
  · obtain ⟨p, hp, rfl⟩ := List.mem_map.1 he
    exact (hz p hp).2
section
variable {H : Type} {enc : TypeId × Value → H} {P : Program} {w : World} {base b0 : Nat} {spare : Nat → Bool} {held : Bool} {r : Reach}
theorem msgs_Trod {t e ee : TypeId} {f0 f1 f2 g0 g1 : Field} (ht : P.underlying t = some (.slice e)) (he : P.underlying e = some (.struct #[f0, f1, f2])) (ce : P.cellsOf e = 3)
    (o0 : f0.offset = 0) (o1 : f1.offset = 1) (o2 : f2.offset = 2) (c0 : P.cellsOf f0.type = 1) (c1 : P.cellsOf f1.type = 1) (c2 : P.cellsOf f2.type = 1) (u0 : P.underlying f0.type = some (.int .i64)) (u1 : P.underlying f1.type = some .string)
    (u2 : P.underlying f2.type = some (.slice ee)) (he2 : P.underlying ee = some (.struct #[g0, g1])) (ce2 : P.cellsOf ee = 2) (p0 : g0.offset = 0) (p1 : g1.offset = 1) (d0 : P.cellsOf g0.type = 1) (d1 : P.cellsOf g1.type = 1) (v0 : P.underlying g0.type = some (.int .u16)) (v1 : P.underlying g1.type = some .string)
    {v : Value} {d : DataW H} {p : List MemPlace} (hv : Value.okWide P w r b0 t v) (h : DataW.Trod enc P w base spare held t v d p) :
    ∃ (dl : D) (ms : List Msg), VRel (gW w (Z20 2 w)) dl v ∧ Zrf Zzc 3 dl ms ∧ (∀ m ∈ ms, ∀ x ∈ m.2.1, x < 256) ∧ ∀ m ∈ ms, ∀ x ∈ m.2.2, x.1 < 65536 := by
  obtain ⟨fuel, hf⟩ := h
  have ev : v.cells.toList = [v] := by
    rcases open_slice ht hf with ⟨hc, _⟩ | ⟨a, len, cap, m, n, D, Pl, hc, _⟩
    · rw [hc, Znv ht hv hc]
    · rw [hc, Znv ht hv hc]
  rw [ev] at hf
  obtain ⟨rows, hr, _, hrow⟩ := Zx6 ht he ce (show 0 < 3 by decide) (fun j f hj => by
    rcases j with _ | _ | _ | j
    · cases hj; exact ⟨o0, c0⟩
    · cases hj; exact ⟨o1, c1⟩
    · cases hj; exact ⟨o2, c2⟩
    · simp at hj) hf
  have one : ∀ row ∈ rows, ∃ m : Msg, row.length = 3 ∧ (∀ u ∈ row, (Zci 2 w u).isSome = true) ∧ Zzc m (row.map fun u => (Zci 2 w u).getD Zj) ∧ (∀ x ∈ m.2.1, x < 256) ∧ ∀ x ∈ m.2.2, x.1 < 65536 := by
    intro row hm
    obtain ⟨hl, hfs⟩ := hrow row hm
    have hl : row.length = 3 := hl
    obtain ⟨a0, e0, fu0, x0, t0⟩ := hfs 0 f0 rfl
    obtain ⟨a1, e1, fu1, x1, t1⟩ := hfs 1 f1 rfl
    obtain ⟨a2, e2, fu2, x2, t2⟩ := hfs 2 f2 rfl
    obtain ⟨n, q0, _, _⟩ := DataW.trod_int u0 t0
    obtain ⟨s, q1, _, _⟩ := DataW.trod_string u1 t1
    obtain ⟨ss, hss, hw, _⟩ := Zx7 (k := .u16) u2 he2 ce2 p0 p1 d0 d1 v0 v1 t2
    cases q0; cases q1
    obtain rfl : row = [.int .i64 n, .string s, a2] := by
      rcases row with _ | ⟨y0, _ | ⟨y1, _ | ⟨y2, _ | ⟨y3, l⟩⟩⟩⟩ <;> simp at hl
      cases e0; cases e1; cases e2
      rfl
    have hc2 := Zy5 (z := 2) hss (fun r hr => by obtain ⟨v, _, rfl⟩ := List.mem_map.1 hr; rfl) (fun r hr u hu => by
      obtain ⟨v, _, rfl⟩ := List.mem_map.1 hr
      simp only [Zq9, List.mem_cons, List.not_mem_nil, or_false] at hu
      rcases hu with rfl | rfl <;> rfl)
    obtain ⟨dx, hdx, hdd⟩ : ∃ dx, Zci 2 w a2 = some dx ∧ ((ss.map (Zq9 .u16) = [] ∧ dx = .v (.slice none 0 0)) ∨ dx = .sl 0 (ss.map (Zq9 .u16)).length (Zmg (ss.map (Zq9 .u16)))) := by
      rcases hc2 with ⟨h1, h2⟩ | h2
      · exact ⟨_, h2, .inl ⟨h1, rfl⟩⟩
      · exact ⟨_, h2, .inr rfl⟩
    obtain ⟨hs1, hs2⟩ := ext_SlE hw hdd
    refine ⟨(n, Yo s, Z58 ss), rfl, ?_, ⟨dx, ?_, hs1⟩, u8_lt s, hs2⟩
    · intro u hu
      simp only [List.mem_cons, List.not_mem_nil, or_false] at hu
      rcases hu with rfl | rfl | rfl
      · rfl
      · rfl
      · rw [hdx]; rfl
    · simp only [List.map_cons, List.map_nil, hdx, Option.getD_some]
      rfl
  obtain ⟨ms, hml, hms⟩ := Zmu rows one
  obtain ⟨dl, h1, h2⟩ := Z8n (z := 2) hr (fun row hm => (hrow row hm).1) (fun row hm => by
    obtain ⟨m, _, h, _⟩ := one row hm
    exact h)
  have hmem : ∀ m ∈ ms, ∃ row, row ∈ rows ∧ (row.length = 3 ∧ (∀ u ∈ row, (Zci 2 w u).isSome = true) ∧ Zzc m (row.map fun u => (Zci 2 w u).getD Zj) ∧ (∀ x ∈ m.2.1, x < 256) ∧ ∀ x ∈ m.2.2, x.1 < 65536) := by
    intro m hm
    obtain ⟨i, hi⟩ := List.getElem?_of_mem hm
    have hil : i < rows.length := by rw [← hml]; exact (List.getElem?_eq_some_iff.1 hi).1
    exact ⟨rows[i], List.getElem_mem _, hms i m _ hi (List.getElem?_eq_getElem hil)⟩
  refine ⟨dl, ms, h2, ⟨rows.map fun row => row.map fun u => (Zci 2 w u).getD Zj, ⟨by simp [hml], fun i x c e1 e2 => ?_⟩, fun c hc => ?_, ?_⟩, fun m hm => ?_, fun m hm => ?_⟩
  · rw [List.getElem?_map] at e2
    cases hq : rows[i]? with
    | none => rw [hq] at e2; cases e2
    | some row =>
      rw [hq] at e2
      cases e2
      exact (hms i x row e1 hq).2.2.1
  · obtain ⟨row, hm, rfl⟩ := List.mem_map.1 hc
    rw [List.length_map]
    exact (hrow row hm).1
  · rcases h1 with ⟨h1, rfl⟩ | rfl
    · subst h1
      have : ms = [] := by simpa using hml
      subst this
      exact .inl ⟨rfl, rfl⟩
    · exact .inr ⟨0, by simp only [List.length_map, Zo0, List.flatMap_def]⟩
  · obtain ⟨row, _, _, _, _, h, _⟩ := hmem m hm
    exact h
  · obtain ⟨row, _, _, _, _, _, h⟩ := hmem m hm
    exact h
end
def Zwf (f : Nat) : Option (List D → H → O D) := bif Nat.beq f 60 then some Y4 else Zmr [(7, [], .v (.bool true)), (8, [], Xo), (9, [], Xo)] f
theorem toldV : Told Tryz.prog glob (Zcc Tryz.prog glob Zwf) := Zzn (Zjg (XA Z8i (XA s_t0 (XA s_t1 V1)))) sim60 Zpt
def tabV : Nat → ZE := Zzm Zwf TA
def Z3t : D → List Nat
  | .str s => s
  | _ => []
theorem Zzo : Xo = .str (Z3t Xo) := by as_aux_lemma => kernel_rfl
theorem lawV {dl : D} {ms : List Msg} (hl : Zrf Zzc 3 dl ms) (hb : ∀ m ∈ ms, ∀ x ∈ m.2.1, x < 256) (hx : ∀ m ∈ ms, ∀ e ∈ m.2.2, e.1 < 65536) : VC (Zcc Tryz.prog glob Zwf) tabV 3 [dl] Za9 (fun d h' => d = .v (.bool true)) Zc2 := by
  have w2 : tabV 8 = Wv (Yy [] (.str (Z3t Xo))) := by rw [← Zzo]; kernel_rfl
  have w3 : tabV 9 = Wv (Yy [] (.str (Z3t Xo))) := by rw [← Zzo]; kernel_rfl
  exact vc3 (by kernel_rfl) (by kernel_rfl) (by kernel_rfl) (by kernel_rfl) (by kernel_rfl) (by kernel_rfl) (by kernel_rfl) (by kernel_rfl) (by kernel_rfl) (by kernel_rfl) (by kernel_rfl) (by kernel_rfl) (by kernel_rfl) (by kernel_rfl) (by kernel_rfl) (by kernel_rfl) (by kernel_rfl) (by kernel_rfl) (by kernel_rfl) (by kernel_rfl) (by kernel_rfl) (by kernel_rfl) (by kernel_rfl) (by kernel_rfl) (by kernel_rfl) (by kernel_rfl) w2 w3 (hneT Zwf) hl hb hx fun h' _ _ => rfl
theorem Zyv : ∀ i cs, glob i = some cs → ∀ d ∈ cs, Z3w d = true := by
  intro i cs hi
  unfold glob at hi
  rcases Yp hi with ⟨_, rfl⟩ | hi
  · exact fun d hd => List.all_eq_true.1 (by kernel_rfl) d hd
  rcases Yp hi with ⟨_, rfl⟩ | hi
  · exact fun d hd => List.all_eq_true.1 (by kernel_rfl) d hd
  cases hi
theorem tls_world {w : World} {lv : Value} {dl : D} {ms : List Msg} (h2 : VRel (gW w (Z20 2 w)) dl lv) (hl : Zrf Zzc 3 dl ms) (hb : ∀ m ∈ ms, ∀ x ∈ m.2.1, x < 256) (hx : ∀ m ∈ ms, ∀ e ∈ m.2.2, e.1 < 65536) (hg : Holds glob w) :
    Calls Tryz.prog 3 #[lv] w fun e w' => e = .returned (.bool true) ∧ Below w.heap.size w w' := by
  obtain ⟨o, he, ho⟩ := lawV hl hb hx
  cases o with
  | panic d h' => exact ho.elim
  | fail w => exact ho.elim
  | ok d0 h0 =>
    refine (Zt8 (Q := fun x h' => x = .v (.bool true)) toldV (Zj3 Z0t Zwf) (globz_W hg Zyv) (Zyb 2 w) ⟨d0, h0, he, ho⟩ (.cons h2 (.nil _)) (enters_of Tryz.func3 (by kernel_rfl) rfl)).mono ?_
    rintro e w' ⟨d, h', v, g', rfl, rfl, _, hv', hb, _⟩
    cases hv'
    exact ⟨rfl, hb⟩
end Run
end
end Go.Abs
