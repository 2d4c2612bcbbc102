/- The quick code, run by rules: more. -/
import Derived.Test.YtbknmljjoahajaaGreatDoorAbsSym
set_option linter.unusedVariables false
set_option linter.unusedSimpArgs false
namespace Go.Abs
theorem WP.mono {E : Env} {T : Nat → FFn} {c : FC} {t : Tr D} {h : H} {M Q : Aft} (hc : WP E T c t h M) (hq : ∀ e t' h', M e t' h' → Q e t' h') : WP E T c t h Q := by
  obtain ⟨e, t1, h1, hr, hm⟩ := hc
  exact ⟨e, t1, h1, hr, hq _ _ _ hm⟩
/-- What was made is kept. -/
def Gr (h h' : H) : Prop := h.next ≤ h'.next ∧ ∀ l, l < h.next → hget h'.mem l = hget h.mem l
theorem Gr.refl (h : H) : Gr h h := ⟨Nat.le_refl _, fun _ _ => rfl⟩
theorem Gr.trans {a b c : H} (h : Gr a b) (k : Gr b c) : Gr a c := ⟨Nat.le_trans h.1 k.1, fun l hl => (k.2 l (Nat.lt_of_lt_of_le hl h.1)).trans (h.2 l hl)⟩
theorem Gr.new {a b : H} (h : Gr a b) (o : AObj) : Gr a (fnew b o) := ⟨Nat.le_succ_of_le h.1, fun l hl => (hget_new_ne (Nat.ne_of_lt (Nat.lt_of_lt_of_le hl h.1))).trans (h.2 l hl)⟩
theorem Gr.put {a b : H} (h : Gr a b) {k : Nat} (hk : a.next ≤ k) (o : AObj) : Gr a (fput' b k o) := ⟨h.1, fun l hl => (hget_put_ne (Nat.ne_of_lt (Nat.lt_of_lt_of_le hl hk))).trans (h.2 l hl)⟩
theorem head_at {size m i : Nat} {cs xs rest : List D} (hx : cs.drop (i * size) = xs ++ rest) (hl : xs.length = size) (hi : i < m) : ∃ rest', (cs.take (m * size)).drop (i * size) = xs ++ rest' := by
  have e : m * size - i * size = size + (m - i - 1) * size := by
    obtain ⟨j, rfl⟩ : ∃ j, m = i + 1 + j := ⟨m - i - 1, by omega⟩
    have : i + 1 + j - i - 1 = j := by omega
    rw [this, Nat.add_mul, Nat.add_mul, Nat.one_mul]
    omega
  refine ⟨rest.take ((m - i - 1) * size), ?_⟩
  rw [List.drop_take, hx, e, List.take_append, hl, List.take_of_length_le (by omega), Nat.add_sub_cancel_left]
theorem headSl_at {size id n m : Nat} {cs : List D} (hm : m ≤ n) : ∃ id' cs', headSl size id n cs m = .sl id' m cs' ∧ ∀ i xs rest, cs.drop (i * size) = xs ++ rest → xs.length = size → i < m → ∃ rest', cs'.drop (i * size) = xs ++ rest' := by
  unfold headSl
  cases hb : Nat.beq m n with
  | true => exact ⟨id, cs, by rw [Nat.eq_of_beq_eq_true hb]; rfl, fun i xs rest hx _ _ => ⟨rest, hx⟩⟩
  | false => exact ⟨0, cs.take (m * size), rfl, fun i xs rest hx hl hi => head_at hx hl hi⟩
theorem wp_cut {E : Env} {T : Nat → FFn} {a b : FC} {t : Tr D} {h : H} {Q : Aft} (M : Tr D → H → Aft) (h1 : WP E T a t h (M t h)) (h2 : ∀ e t' h', M t h e t' h' → Kseq E T b Q e t' h') : WP E T (fseq a b) t h Q := wp_seq (WP.mono h1 h2)
theorem wp_loopC {E : Env} {T : Nat → FFn} {a : FC} {t : Tr D} {h : H} {Q : Aft} (I : Tr D → H → Nat → Tr D → H → Prop) (n : Nat) (hi : I t h n t h) (hb : ∀ n t1 h1, I t h n t1 h1 → WP E T a t1 h1 (Kloop E T (I t h) n Q)) : WP E T (floop a) t h Q := wp_loop (I t h) hi hb
theorem Gt_ne {i j : Nat} {v : D} {t : Tr D} (h : i ≠ j) : Gt i (St j v t) = Gt i t := by rw [Gt_St, if_neg h]
theorem repeatL_length (d : D) : ∀ n, (repeatL [d] n).length = n
  | 0 => rfl
  | n + 1 => by simp [repeatL, repeatL_length d n]
theorem set_at {gs : List D} {i : Nat} {d : D} (hi : i < gs.length) : gs.take i ++ [d] ++ gs.drop (i + 1) = gs.set i d := by
  rw [List.set_eq_take_append_cons_drop, if_pos hi, List.append_assoc]; rfl
def oSame (o : Option (List D)) (cs : List D) : Bool :=
  match o with
  | some ds => sames cs ds
  | none => false
theorem oSame_some {cs ds : List D} : oSame (some ds) cs = sames cs ds := rfl
theorem readOk_loudS {inc : List Nat} {x : D} {cs : List D} {j : Nat} {h0 : H} {recs : List Rec} : readOk inc x cs (.loud j h0 :: recs) = ((!mem? j inc || oSame (readCells h0 x cs.length) cs) && readOk inc x cs recs) := rfl
theorem loudOk_rdS {inc : List Nat} {h : H} {x : D} {cs : List D} {j : Nat} {recs : List Rec} : loudOk inc h (.rd j x cs :: recs) = ((!mem? j inc || oSame (readCells h x cs.length) cs) && loudOk inc h recs) := rfl
/-! append, part by part. -/
def oTip (o : Option AObj) (e size bytes k n m : Nat) (cs ys : List D) (h : H) : O D :=
  match o with
  | some (.tip k' u) => bif Nat.beq k' n && Nat.beq u e && Nat.beq cs.length (n * size) && Nat.ble ((n + m) * bytes) 140737488355328 && Nat.ble (n + m) 140737488355328 then .ok (.sl k (n + m) (cs ++ ys)) (fput' h k (.tip (n + m) e)) else .fail "append: not the tip"
  | _ => .fail "append: no tip"
theorem oApp_unf {e size bytes k n id m : Nat} {cs ys : List D} {h : H} : oApp e size bytes (.sl k n cs) (.sl id m ys) h = bif Nat.beq ys.length (m * size) then (bif Nat.beq m 0 then .ok (.sl k n cs) h else bif allOne ys && Nat.beq ys.length (m * size) && !Nat.beq size 0 then oTip (hget h.mem k) e size bytes k n m cs ys h else .fail "append: cells") else .fail "append: what?" := by
  cases hb : Nat.beq ys.length (m * size)
  · simp only [oApp, appendD, sliceCells, hb, cond_false]
  · simp only [oApp, appendD, sliceCells, oTip, hget_eq, fput'_eq, hb, cond_true]
    rfl
theorem oApp_unil {e size bytes id m : Nat} {ys : List D} {h : H} : oApp e size bytes (.v (.slice none 0 0)) (.sl id m ys) h = bif Nat.beq ys.length (m * size) then (bif Nat.beq m 0 then .ok (.v (.slice none 0 0)) h else bif allOne ys && Nat.beq ys.length (m * size) && !Nat.beq size 0 then (bif Nat.ble (m * bytes) 140737488355328 && Nat.ble m 140737488355328 then .ok (.sl h.next m ys) (fnew h (.tip m e)) else .fail "append: size") else .fail "append: cells") else .fail "append: what?" := by
  cases hb : Nat.beq ys.length (m * size)
  · simp only [oApp, appendD, sliceCells, hb, cond_false]
  · simp only [oApp, appendD, sliceCells, fnew_eq, hb, cond_true]
theorem oTip_ok {e size bytes k n m : Nat} {cs ys : List D} {h : H} (hc : cs.length = n * size) (h1 : (n + m) * bytes ≤ 140737488355328) (h2 : n + m ≤ 140737488355328) : oTip (some (.tip n e)) e size bytes k n m cs ys h = .ok (.sl k (n + m) (cs ++ ys)) (fput' h k (.tip (n + m) e)) := by
  simp only [oTip, Nat.beq_refl, hc, ble_of h1, ble_of h2, Bool.and_self, cond_true]
theorem mem_cons {i j : Nat} {r : List Nat} : mem? i (j :: r) = (Nat.beq i j || mem? i r) := rfl
theorem sames_one (c : Int) : sames [.int .i64 c] [.int .i64 c] = true := by simp only [sames, D.same, decide_true, Bool.and_self]

theorem loudT {h : H} {recs : List Rec} : (loudOk [] h recs = true) ↔ True := by rw [loudOk_none]; exact ⟨fun _ => trivial, fun _ => rfl⟩
theorem readT {inc : List Nat} {x : D} {cs : List D} : (readOk inc x cs [] = true) ↔ True := ⟨fun _ => trivial, fun _ => rfl⟩
theorem minV {P : Program} (t : TypeId) (m n : Nat) (cs : Array Bool) : val? P (builtin .min #[t, t] t cs #[.int .i64 (.ofNat m), .int .i64 (.ofNat n)]) = some (.value (.int .i64 (.ofNat (min m n)))) := by
  have e : (if (Int.ofNat n) < (Int.ofNat m) then Int.ofNat n else Int.ofNat m) = Int.ofNat (min m n) := by
    simp only [Int.ofNat_eq_natCast]
    split <;> omega
  rw [← e]
  rfl
theorem minB {E : Env} {c : Call} {a : AAct} {h : H} (t : TypeId) (m n : Nat) (cs : Array Bool) : r_bi .min #[t, t] t cs [.d (.int .i64 (.ofNat m)), .d (.int .i64 (.ofNat n))] E c a h = .ok (.int .i64 (.ofNat (min m n))) h := by
  simp only [r_bi, AAct.evals, AAct.eval, plains, D.plain, D.plain0, D.plain1]
  have := minV (P := E.P) t m n cs
  simp only [this]
  rfl
/-- A slice of these cells, new or none. -/
def RowD (d : D) (n : Nat) (cs : List D) : Prop := (n = 0 ∧ d = .v (.slice none 0 0) ∧ cs = []) ∨ ∃ k, d = .sl k n cs
/-- A slice that is being made. -/
def Grow2 (n0 : Nat) (h : H) (e size : Nat) (i k : Nat) (cs : List D) (d : D) : Prop := (i = 0 ∧ d = .v (.slice none 0 0) ∧ cs = []) ∨ (0 < i ∧ d = .sl k i cs ∧ hget h.mem k = some (.tip i e) ∧ cs.length = i * size ∧ n0 ≤ k ∧ k < h.next)
section
variable {E : Env} {T : Nat → FFn}
/-- One round, and the loop again. -/
def KloopU (E : Env) (T : Nat → FFn) (a : FC) (Q : Aft) : Aft := fun e t h =>
  match e with
  | .normal => WP E T (floop a) t h Q
  | e => Q e t h
theorem kloopu_n {a : FC} {Q : Aft} {t : Tr D} {h : H} : KloopU E T a Q .normal t h ↔ WP E T (floop a) t h Q := Iff.rfl
theorem kloopu_e {a : FC} {Q : Aft} {i : Nat} {t : Tr D} {h : H} : KloopU E T a Q (.exit i) t h ↔ Q (.exit i) t h := Iff.rfl
theorem kloopu_r {a : FC} {Q : Aft} {t : Tr D} {h : H} : KloopU E T a Q .ret t h ↔ Q .ret t h := Iff.rfl
theorem wp_loopU {a : FC} {t : Tr D} {h : H} {Q : Aft} (hq : WP E T a t h (KloopU E T a Q)) : WP E T (floop a) t h Q := by
  obtain ⟨e, t1, h1, hr, hq⟩ := hq
  cases e with
  | normal =>
    obtain ⟨e2, t2, h2, hr2, hq2⟩ := hq
    exact ⟨e2, t2, h2, runs_loop hr hr2, hq2⟩
  | exit i => exact ⟨_, t1, h1, runs_loop_out hr trivial, hq⟩
  | ret => exact ⟨_, t1, h1, runs_loop_out hr trivial, hq⟩
variable {t : Tr D} {h : H} {Q : Aft} {p : D → Tr D → Tr D} {k : FR} {g g1 g2 : Tr D → D} {kd : FD} {recs : List Rec}
def oB2s (d : D) (h : H) : O D := r_b2s (.d d) ⟨default, fun _ => none, fun _ => none, fun _ => none⟩ nocall (act .nil) h
def oS2b (d : D) (h : H) : O D :=
  match d with
  | .str l => .ok (.sl 0 l.length (bytesD l)) h
  | _ => .fail "s2b"
theorem wr_b2s : WR E T (fo (u1 r_b2s g) p k) t h Q ↔ sO E T (oB2s (g t) h) p k t Q := wr_fo fun _ => rfl
theorem oB2s_sl {id n : Nat} {cs : List D} {l : List Nat} (hn : cs.length = n) (hl : bytesOf cs = some l) : oB2s (.sl id n cs) h = .ok (.str l) h := by
  subst hn
  simp only [oB2s, r_b2s, AAct.eval, sliceCells, Nat.mul_one, Nat.beq_refl, cond_true, hl]
theorem oB2s_nil : oB2s (.v (.slice none 0 0)) h = .ok (.str []) h := rfl
theorem oB2s_row {l n c : Nat} {ty : TypeId} {cs : List D} {bs : List Nat} (hm : hget h.mem l = some (.cells ty cs)) (hn : cs.length = n) (hl : bytesOf cs = some bs) : oB2s (.row l 0 n c) h = .ok (.str bs) h := by
  subst hn
  rw [hget_eq] at hm
  simp only [oB2s, r_b2s, AAct.eval, sliceCells, readCells, hm, List.drop_zero, Nat.mul_one, List.take_length, Nat.beq_refl, cond_true, hl]
def oLens (d : D) (h : H) : O D :=
  match d with
  | .str l => .ok (.int .i64 (.ofNat l.length)) h
  | _ => .fail "len"
theorem wr_lens : WR E T (fo (u1 r_lens g) p k) t h Q ↔ sO E T (oLens (g t) h) p k t Q := wr_fo fun _ => rfl
theorem oLens_str {l : List Nat} : oLens (.str l) h = .ok (.int .i64 (.ofNat l.length)) h := rfl
def oSlstr (lo hi : Option D) (x : D) (h : H) : O D :=
  match x with
  | .str s => match boundsD s.length s.length lo hi with
    | some (l, k) => .ok (.str ((s.drop l).take (k - l))) h
    | none => .fail "slice: string"
  | _ => .fail "slice: string"
theorem fslstr_o (c : Call) (lo hi : Option (Tr D → D)) : fslstr g lo hi E c t h = oSlstr (lo.map (· t)) (hi.map (· t)) (g t) h := by
  have e := fslstr_eq (.d (g t)) (lo.map fun f => .d (f t)) (hi.map fun f => .d (f t)) E c t h
  have e1 : fslstr (fe (.d (g t))) (feo (lo.map fun f => .d (f t))) (feo (hi.map fun f => .d (f t))) E c t h = fslstr g lo hi E c t h := by
    cases lo <;> cases hi <;> rfl
  rw [← e1, e]
  cases lo <;> cases hi <;> rfl
theorem wr_slstr {lo hi : Option (Tr D → D)} : WR E T (fo (fslstr g lo hi) p k) t h Q ↔ sO E T (oSlstr (lo.map (· t)) (hi.map (· t)) (g t) h) p k t Q := by
  rw [← fslstr_o (E := E) nocall]
  exact wr_fo fun c => by rw [fslstr_o, fslstr_o]
theorem oSlstr_hi {s : List Nat} {n : Nat} {kk : IntKind} (hn : n ≤ s.length) : oSlstr none (some (.int kk (.ofNat n))) (.str s) h = .ok (.str (s.take n)) h := by
  simp only [oSlstr, boundsD, hiD, loD, ble_of hn, cond_true, List.drop_zero, Nat.sub_zero]
/-- The sum of two strings. -/
def oCat (d : Option D) (h : H) : O D := ok? d h "bin"
theorem cat_str {op : TypeId} {ox oy : Operand} {a b : List Nat} (hl : a.length + b.length ≤ 140737488355328) : binD E .add op ox oy (.str a) (.str b) = some (.str (a ++ b)) := by
  simp only [binD, quickBin, ble_of hl, cond_true]
theorem eq_str {op : TypeId} {ox oy : Operand} {a b : List Nat} : binD E .eql op ox oy (.str a) (.str b) = some (.v (.bool (beqL a b))) := rfl
end
end Go.Abs
