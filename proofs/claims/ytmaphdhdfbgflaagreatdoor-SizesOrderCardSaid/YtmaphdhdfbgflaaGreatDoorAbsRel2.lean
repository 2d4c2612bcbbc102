/- Slices that grow, cells that stay, cells that are read. -/
import Derived.Test.YtmaphdhdfbgflaaGreatDoorAbsRel
set_option linter.unusedVariables false
namespace Go.Abs

theorem R.imm_new {P : Program} {top : Nat} {g : G} {h : H} {w : World} (hr : R P top g h w) {b : Nat} (hb : w.heap.size ≤ b) (o : Nat) : g.imm b o = none := by
  cases hi : g.imm b o with
  | none => rfl
  | some d => obtain ⟨v, hv, _⟩ := hr.imm _ _ _ hi; have := World.block_lt_of_cell? w _ hv; simp at this; omega
theorem cell_of_own {w : World} {e : TypeId} {size b n cap : Nat} {xs : List Value} (h : w.ownsRow 0 e size (.slice (some ⟨b, 0, none⟩) n cap) n xs) {o : Nat} {v : Value} (hx : xs[o]? = some v) : w.cell? ⟨b, o, none⟩ = some v := by
  have := h.cells (g := b) rfl o v hx
  have hadd : (⟨b, 0, none⟩ : Addr).add o = ⟨b, o, none⟩ := by unfold Addr.add; split <;> simp_all
  rwa [hadd] at this

/-- A slice in a new block. -/
theorem R.slFresh {P : Program} {top : Nat} {g : G} {h h' : H} {w w' : World} (hr : R P top g h w) (htop : h'.next ≤ top) {id N cap b : Nat} {e : TypeId} {ds : List D} {xs : List Value}
    (hid : (id = h.next ∧ h' = (h.new (.tip N e)).2) ∨ (∃ n, h.mem.get id = some (.tip n e) ∧ n < N ∧ h' = h.put id (.tip N e)))
    (hg : w.grownBy w' none) (hb : w.heap.size ≤ b) (hrow : w'.ownsRow 0 e (P.cellsOf e) (.slice (some ⟨b, 0, none⟩) N cap) N xs) (hcap : N ≤ cap) (hds : VRels g ds xs) :
    ∃ g', Ext g h w g' h' w' ∧ R P top g' h' w' ∧ VRel g' (.sl id N ds) (.slice (some ⟨b, 0, none⟩) N cap) := by
  have hget : ∀ l, h'.mem.get l = if l = id then some (.tip N e) else h.mem.get l := by
    intro l
    rcases hid with ⟨rfl, rfl⟩ | ⟨n, _, _, rfl⟩
    · exact H.new_get _ _ _
    · exact H.put_get _ _ _ _
  have hnext : h.next ≤ h'.next := by rcases hid with ⟨rfl, rfl⟩ | ⟨n, _, _, rfl⟩ <;> simp [H.new, H.put]
  have hidlt : id < h'.next := by
    rcases hid with ⟨rfl, rfl⟩ | ⟨n, hn, _, rfl⟩
    · simp [H.new]
    · exact Nat.lt_of_not_le fun hq => by have := hr.dom id hq; rw [this] at hn; cases hn
  have hblk0 : g.blk id = none := by
    rcases hid with ⟨rfl, rfl⟩ | ⟨n, hn, _, rfl⟩
    · exact (hr.name _ (Nat.le_refl _) htop).1
    · obtain ⟨_, _, _, h1, _⟩ := hr.tip id n e hn
      exact hr.slblk id n _ h1
  have hidpos : id ≠ 0 := by
    rcases hid with ⟨rfl, rfl⟩ | ⟨n, hn, _, rfl⟩
    · have := hr.pos.1; omega
    · intro e0; subst e0; rw [hr.pos.2] at hn; cases hn
  have hslN : ∀ k, N ≤ k → g.sl id k = none := by
    intro k hk
    rcases hid with ⟨rfl, rfl⟩ | ⟨n, hn, hlt, rfl⟩
    · exact (hr.name _ (Nat.le_refl _) htop).2.1 k
    · obtain ⟨_, _, _, _, _, _, h4⟩ := hr.tip id n e hn
      exact h4 k (by omega)
  let g' : G := { blk := g.blk, sl := fun i n => if i = id ∧ n = N then some (b, cap) else g.sl i n, own := fun x => if x = b then some id else g.own x, imm := fun x o => if x = b then ds[o]? else g.imm x o }
  have hle : g.Le g' := ⟨fun _ _ x => x, fun l n p hp => by
      show (if l = id ∧ n = N then _ else _) = _
      rw [if_neg (fun e => by obtain ⟨rfl, rfl⟩ := e; rw [hslN n (Nat.le_refl _)] at hp; cases hp)]; exact hp, fun x o d hd => by
      show (if x = b then _ else _) = _
      rw [if_neg (fun e => by subst e; rw [hr.imm_new hb] at hd; cases hd)]; exact hd⟩
  have hneb : ∀ x l, g.own x = some l → x ≠ b := fun x l hx e => by subst e; rw [hr.block _ hb] at hx; cases hx
  have hbl : b < w'.heap.size := (hrow.lt b rfl).2
  have hds' : VRels g' ds xs := hds.mono hle
  have hlen : ds.length = N * P.cellsOf e := hds.1.trans hrow.1
  have hdom : ∀ l, l < h.next → h.mem.get l = none → h'.mem.get l = none := by
    intro l hl hn
    rw [hget]
    by_cases e1 : l = id
    · subst e1
      rcases hid with ⟨rfl, rfl⟩ | ⟨n, hq, _, rfl⟩
      · omega
      · rw [hn] at hq; cases hq
    · rw [if_neg e1]; exact hn
  have hnames : ∀ l, Fresh g l → (l < h.next ∨ h'.next ≤ l) → Fresh g' l := by
    intro l hf hor
    have hne : l ≠ id := by
      rintro rfl
      rcases hid with ⟨rfl, rfl⟩ | ⟨n, hn, _, rfl⟩
      · have : (h.new (.tip N e)).2.next = h.next + 1 := rfl
        omega
      · obtain ⟨_, _, _, h1, _⟩ := hr.tip l n e hn
        rw [hf.2.1 n] at h1; cases h1
    refine ⟨hf.1, fun n => by show (if l = id ∧ _ then _ else _) = _; rw [if_neg (fun q => hne q.1)]; exact hf.2.1 n, fun x hx => ?_⟩
    by_cases ex : x = b
    · have : id = l := by simpa [g', ex] using hx
      exact hne this.symm
    · exact hf.2.2 x (by simpa [g', ex] using hx)
  refine ⟨g', ⟨hle, fun x l hx => ?_, fun x hx => if_neg (fun e => by omega), hg.os, hg.tape, hg.output, hg.size, fun x hx _ => hg.block x hx (by simp), hdom, hnext, hnames, fun x hx _ o => if_neg (fun e => by omega), fun i n hn hor => if_neg (fun q => ?_)⟩, ⟨?_, ?_, ?_, ?_, ?_, ?_, ?_, htop, ?_, ?_, ?_⟩, ?_⟩
  · show (if x = b then _ else _) = _
    rw [if_neg (hneb x l hx)]; exact hx
  · rcases hid with ⟨rfl, rfl⟩ | ⟨m, hm, _, rfl⟩
    · have : (h.new (.tip N e)).2.next = h.next + 1 := rfl
      omega
    · rw [q.1, hm] at hn; cases hn
  · intro l o ho hn
    rw [hget] at ho
    by_cases e1 : l = id
    · rw [if_pos e1] at ho; cases ho; exact absurd rfl (hn _ _)
    · rw [if_neg e1] at ho
      obtain ⟨x, ob, h1, h2, h3⟩ := hr.obj l o ho hn
      exact ⟨x, ob, h1, by rw [hg.block x (Array.getElem?_eq_some_iff.1 h2).1 (by simp)]; exact h2, h3.mono hle⟩
  · intro i n e' hi
    rw [hget] at hi
    by_cases e1 : i = id
    · rw [if_pos e1] at hi
      cases hi
      subst e1
      refine ⟨b, cap, xs, if_pos ⟨rfl, rfl⟩, hrow, fun o ho => ?_, fun k hk => ?_⟩
      · show (if b = b then _ else _) = _
        rw [if_pos rfl]; exact List.getElem?_eq_none (by omega)
      · show (if i = i ∧ k = _ then _ else _) = _
        rw [if_neg (by omega)]; exact hslN k (by omega)
    · rw [if_neg e1] at hi
      obtain ⟨x, cp, ys, h1, h2, h3, h4⟩ := hr.tip i n e' hi
      have hx : x ≠ b := hneb x i (hr.slown _ _ _ _ h1)
      refine ⟨x, cp, ys, hle.sl _ _ _ h1, h2.kept hg (.inr (by simp [Value.ownBlock])), fun o ho => ?_, fun k hk => ?_⟩
      · show (if x = b then _ else _) = _
        rw [if_neg hx]; exact h3 o ho
      · show (if i = id ∧ _ then _ else _) = _
        rw [if_neg (fun q => e1 q.1)]; exact h4 k hk
  · intro x o d hd
    by_cases ex : x = b
    · subst ex
      have hd' : ds[o]? = some d := by simpa [g'] using hd
      obtain ⟨v, hv, hvr⟩ := hds'.some hd'
      exact ⟨v, cell_of_own hrow hv, hvr⟩
    · have hd' : g.imm x o = some d := by simpa [g', ex] using hd
      obtain ⟨v, hv, hvr⟩ := hr.imm x o d hd'
      exact ⟨v, hg.cell hv (by simp), hvr.mono hle⟩
  · intro l x hx
    have := hr.blkown l x hx
    have hxb := hneb x l this.1
    exact ⟨by show (if x = b then _ else _) = _; rw [if_neg hxb]; exact this.1, fun o => by show (if x = b then _ else _) = _; rw [if_neg hxb]; exact this.2 o⟩
  · intro i n x cp hs
    by_cases e1 : i = id ∧ n = N
    · have : (b, cap) = (x, cp) := by simpa [g', e1] using hs
      cases this
      show (if b = b then _ else _) = _
      rw [if_pos rfl, e1.1]
    · have hs' : g.sl i n = some (x, cp) := by simpa [g', e1] using hs
      have := hr.slown i n x cp hs'
      show (if x = b then _ else _) = _
      rw [if_neg (hneb x i this)]; exact this
  · intro l hl hlt
    have := hr.name l (Nat.le_trans hnext hl) hlt
    exact hnames l this (.inr hl)
  · intro l hl
    rw [hget, if_neg (by omega)]; exact hr.dom l (Nat.le_trans hnext hl)
  · intro x hx
    show (if x = b then _ else _) = _
    rw [if_neg (by omega)]; exact hr.block x (Nat.le_trans hg.size hx)
  · refine ⟨by have := hr.pos.1; omega, by rw [hget, if_neg (Ne.symm hidpos)]; exact hr.pos.2⟩
  · intro i n p hp
    by_cases e1 : i = id ∧ n = N
    · rw [e1.1]; exact hblk0
    · exact hr.slblk i n p (by simpa [g', e1] using hp)
  · refine .sl hcap (fun i d hd => ⟨rfl, ?_⟩) (fun _ => ⟨rfl, rfl, if_pos ⟨rfl, rfl⟩⟩)
    show (if b = b then _ else _) = _
    rw [if_pos rfl, Nat.zero_add]; exact hd

/-- A slice that grows in its place. -/
theorem R.slRoom {P : Program} {top : Nat} {g : G} {h : H} {w w' : World} (hr : R P top g h w) {id n m cap b : Nat} {e : TypeId} {cs ds : List D} {xs news : List Value}
    (htip : h.mem.get id = some (.tip n e)) (hsl : g.sl id n = some (b, cap)) (hm : 0 < m) (hcs : cs.length = n * P.cellsOf e) (hdl : ds.length = m * P.cellsOf e)
    (himm : ∀ (i : Nat) (d : D), cs[i]? = some d → g.imm b i = some d)
    (hg : w.grownBy w' (some b)) (hrow0 : w.ownsRow 0 e (P.cellsOf e) (.slice (some ⟨b, 0, none⟩) n cap) n xs)
    (hrow : w'.ownsRow 0 e (P.cellsOf e) (.slice (some ⟨b, 0, none⟩) (n + m) cap) (n + m) (xs ++ news)) (hroom : n + m ≤ cap) (hds : VRels g ds news) :
    ∃ g', Ext g h w g' (h.put id (.tip (n + m) e)) w' ∧ R P top g' (h.put id (.tip (n + m) e)) w' ∧ VRel g' (.sl id (n + m) (cs ++ ds)) (.slice (some ⟨b, 0, none⟩) (n + m) cap) := by
  obtain ⟨b0, cap0, xs0, t1, t2, t3, t4⟩ := hr.tip id n e htip
  rw [hsl] at t1
  cases t1
  have hown := hr.slown id n b cap hsl
  have hget : ∀ l, (h.put id (.tip (n + m) e)).mem.get l = if l = id then some (.tip (n + m) e) else h.mem.get l := fun l => H.put_get _ _ _ _
  have hbl0 : b < w.heap.size := Nat.lt_of_not_le fun hq => by rw [hr.block b hq] at hown; cases hown
  have hidlt : id < h.next := Nat.lt_of_not_le fun hq => by have := hr.dom id hq; rw [this] at htip; cases htip
  have hidpos : id ≠ 0 := fun e0 => by subst e0; rw [hr.pos.2] at htip; cases htip
  let g' : G := { blk := g.blk, sl := fun i k => if i = id ∧ k = n + m then some (b, cap) else g.sl i k, own := g.own, imm := fun x o => if x = b ∧ n * P.cellsOf e ≤ o then ds[o - n * P.cellsOf e]? else g.imm x o }
  have hle : g.Le g' := ⟨fun _ _ x => x, fun l k p hp => by
      show (if l = id ∧ k = n + m then _ else _) = _
      rw [if_neg (fun e => by obtain ⟨rfl, rfl⟩ := e; rw [t4 _ (by omega)] at hp; cases hp)]; exact hp, fun x o d hd => by
      show (if x = b ∧ _ then _ else _) = _
      rw [if_neg (fun e => by obtain ⟨rfl, e2⟩ := e; rw [t3 o e2] at hd; cases hd)]; exact hd⟩
  have hds' : VRels g' ds news := hds.mono hle
  have hxl : xs.length = n * P.cellsOf e := hrow0.1
  have hdom : ∀ l, l < h.next → h.mem.get l = none → (h.put id (.tip (n + m) e)).mem.get l = none := by
    intro l hl hn
    rw [hget]
    by_cases e1 : l = id
    · subst e1; rw [hn] at htip; cases htip
    · rw [if_neg e1]; exact hn
  have hnames : ∀ l, Fresh g l → (l < h.next ∨ (h.put id (.tip (n + m) e)).next ≤ l) → Fresh g' l := by
    intro l hf hor
    have hne : l ≠ id := by rintro rfl; rw [hf.2.1 n] at hsl; cases hsl
    exact ⟨hf.1, fun k => by show (if l = id ∧ _ then _ else _) = _; rw [if_neg (fun q => hne q.1)]; exact hf.2.1 k, hf.2.2⟩
  refine ⟨g', ⟨hle, fun x l hx => hx, fun x hx => rfl, hg.os, hg.tape, hg.output, hg.size, fun x hx hf => hg.block x hx (fun q => ?_), hdom, Nat.le_refl _, hnames, fun x hx hf o => if_neg (fun q => ?_), fun i k hn _ => if_neg (fun q => ?_)⟩, ⟨?_, ?_, ?_, ?_, ?_, ?_, ?_, hr.le, ?_, ?_, ?_⟩, ?_⟩
  · cases q
    rw [hf id hown] at htip
    cases htip
  · rw [q.1] at hf
    rw [hf id hown] at htip
    cases htip
  · rw [q.1, htip] at hn
    cases hn
  · intro l o ho hn
    rw [hget] at ho
    by_cases e1 : l = id
    · rw [if_pos e1] at ho; cases ho; exact absurd rfl (hn _ _)
    · rw [if_neg e1] at ho
      obtain ⟨x, ob, h1, h2, h3⟩ := hr.obj l o ho hn
      refine ⟨x, ob, h1, ?_, h3.mono hle⟩
      rw [hg.block x (Array.getElem?_eq_some_iff.1 h2).1 (fun q => ?_)]
      · exact h2
      · cases q
        have := (hr.blkown l b h1).1
        rw [hown] at this
        cases this
        exact e1 rfl
  · intro i k e' hi
    rw [hget] at hi
    by_cases e1 : i = id
    · rw [if_pos e1] at hi
      cases hi
      subst e1
      refine ⟨b, cap, xs ++ news, if_pos ⟨rfl, rfl⟩, hrow, fun o ho => ?_, fun k hk => ?_⟩
      · rw [Nat.add_mul] at ho
        show (if b = b ∧ _ then _ else _) = _
        rw [if_pos ⟨rfl, by omega⟩]; exact List.getElem?_eq_none (by omega)
      · show (if i = i ∧ k = _ then _ else _) = _
        rw [if_neg (by omega)]; exact t4 k (by omega)
    · rw [if_neg e1] at hi
      obtain ⟨x, cp, ys, h1, h2, h3, h4⟩ := hr.tip i k e' hi
      have hx : x ≠ b := fun q => by
        subst q
        have := hr.slown _ _ _ _ h1
        rw [hown] at this
        cases this
        exact e1 rfl
      refine ⟨x, cp, ys, hle.sl _ _ _ h1, h2.kept hg (.inr (by simpa [Value.ownBlock] using hx)), fun o ho => ?_, fun k hk => ?_⟩
      · show (if x = b ∧ _ then _ else _) = _
        rw [if_neg (fun q => hx q.1)]; exact h3 o ho
      · show (if i = id ∧ _ then _ else _) = _
        rw [if_neg (fun q => e1 q.1)]; exact h4 k hk
  · intro x o d hd
    by_cases ex : x = b ∧ n * P.cellsOf e ≤ o
    · have hd' : ds[o - n * P.cellsOf e]? = some d := by simpa [g', ex] using hd
      obtain ⟨v, hv, hvr⟩ := hds'.some hd'
      refine ⟨v, ?_, hvr⟩
      rw [ex.1]
      refine cell_of_own hrow ?_
      rw [List.getElem?_append_right (by omega), hxl]; exact hv
    · have hd' : g.imm x o = some d := by simpa [g', ex] using hd
      obtain ⟨v, hv, hvr⟩ := hr.imm x o d hd'
      by_cases exb : x = b
      · subst exb
        have ho : o < n * P.cellsOf e := Nat.lt_of_not_le fun q => ex ⟨rfl, q⟩
        have hx : xs[o]? = some v := by
          obtain ⟨u, hu⟩ : ∃ u, xs[o]? = some u := ⟨xs[o], List.getElem?_eq_getElem (by omega)⟩
          rw [cell_of_own hrow0 hu] at hv
          rw [hu, hv]
        refine ⟨v, cell_of_own hrow ?_, hvr.mono hle⟩
        rw [List.getElem?_append_left (by omega)]; exact hx
      · exact ⟨v, hg.cell hv (by simpa using exb), hvr.mono hle⟩
  · intro l x hx
    have := hr.blkown l x hx
    refine ⟨this.1, fun o => ?_⟩
    show (if x = b ∧ _ then _ else _) = _
    rw [if_neg (fun q => ?_)]
    · exact this.2 o
    · have h1 := this.1
      rw [q.1, hown] at h1
      cases h1
      have := hr.slblk id n _ hsl
      rw [this] at hx
      cases hx
  · intro i k x cp hs
    by_cases e1 : i = id ∧ k = n + m
    · have : (b, cap) = (x, cp) := by simpa [g', e1] using hs
      cases this
      rw [e1.1]; exact hown
    · have hs' : g.sl i k = some (x, cp) := by simpa [g', e1] using hs
      exact hr.slown i k x cp hs'
  · intro l hl hlt
    exact hnames l (hr.name l hl hlt) (.inr hl)
  · intro l hl
    have : h.next ≤ l := hl
    rw [hget, if_neg (by omega)]; exact hr.dom l hl
  · exact fun x hx => hr.block x (Nat.le_trans hg.size hx)
  · exact ⟨hr.pos.1, by rw [hget, if_neg (Ne.symm hidpos)]; exact hr.pos.2⟩
  · intro i k p hp
    by_cases e1 : i = id ∧ k = n + m
    · rw [e1.1]; exact hr.slblk id n _ hsl
    · exact hr.slblk i k p (by simpa [g', e1] using hp)
  · refine .sl hroom (fun i d hd => ⟨rfl, ?_⟩) (fun _ => ⟨rfl, rfl, if_pos ⟨rfl, rfl⟩⟩)
    show (if b = b ∧ n * P.cellsOf e ≤ 0 + i then _ else _) = _
    rw [Nat.zero_add]
    by_cases hi : n * P.cellsOf e ≤ i
    · rw [if_pos ⟨rfl, hi⟩]
      rw [List.getElem?_append_right (by omega), hcs] at hd; exact hd
    · rw [if_neg (fun q => hi q.2)]
      rw [List.getElem?_append_left (by omega)] at hd
      exact himm i d hd

/-- Cells of a new block that stay. -/
theorem R.immNew {P : Program} {top : Nat} {g : G} {h : H} {w w' : World} (hr : R P top g h w) {b : Nat} {ds : List D} {xs : List Value}
    (hg : w.grownBy w' none) (hb : w.heap.size ≤ b) (hcell : ∀ o v, xs[o]? = some v → w'.cell? ⟨b, o, none⟩ = some v) (hds : VRels g ds xs) :
    ∃ g', Ext g h w g' h w' ∧ R P top g' h w' ∧ (∀ (i : Nat) (d : D), ds[i]? = some d → g'.imm b i = some d) := by
  let g' : G := { g with imm := fun x o => if x = b then ds[o]? else g.imm x o }
  have hle : g.Le g' := ⟨fun _ _ x => x, fun _ _ _ x => x, fun x o d hd => by
      show (if x = b then _ else _) = _
      rw [if_neg (fun e => by subst e; rw [hr.imm_new hb] at hd; cases hd)]; exact hd⟩
  have hneb : ∀ x l, g.own x = some l → x ≠ b := fun x l hx e => by subst e; rw [hr.block _ hb] at hx; cases hx
  refine ⟨g', ⟨hle, fun x l hx => hx, fun x hx => rfl, hg.os, hg.tape, hg.output, hg.size, fun x hx _ => hg.block x hx (by simp), fun l _ hn => hn, Nat.le_refl _, fun _ x _ => x, fun x hx _ o => if_neg (fun e => by omega), fun _ _ _ _ => rfl⟩, ⟨?_, ?_, ?_, ?_, hr.slown, hr.name, hr.dom, hr.le, fun x hx => hr.block x (Nat.le_trans hg.size hx), hr.pos, hr.slblk⟩, fun i d hd => ?_⟩
  · intro l o ho hn
    obtain ⟨x, ob, h1, h2, h3⟩ := hr.obj l o ho hn
    exact ⟨x, ob, h1, by rw [hg.block x (Array.getElem?_eq_some_iff.1 h2).1 (by simp)]; exact h2, h3.mono hle⟩
  · intro i n e' hi
    obtain ⟨x, cp, ys, h1, h2, h3, h4⟩ := hr.tip i n e' hi
    refine ⟨x, cp, ys, h1, h2.kept hg (.inr (by simp [Value.ownBlock])), fun o ho => ?_, h4⟩
    show (if x = b then _ else _) = _
    rw [if_neg (hneb x i (hr.slown _ _ _ _ h1))]; exact h3 o ho
  · intro x o d hd
    by_cases ex : x = b
    · subst ex
      have hd' : ds[o]? = some d := by simpa [g'] using hd
      obtain ⟨v, hv, hvr⟩ := (hds.mono hle).some hd'
      exact ⟨v, hcell o v hv, hvr⟩
    · have hd' : g.imm x o = some d := by simpa [g', ex] using hd
      obtain ⟨v, hv, hvr⟩ := hr.imm x o d hd'
      exact ⟨v, hg.cell hv (by simp), hvr.mono hle⟩
  · intro l x hx
    have := hr.blkown l x hx
    have hxb := hneb x l this.1
    exact ⟨this.1, fun o => by show (if x = b then _ else _) = _; rw [if_neg hxb]; exact this.2 o⟩
  · show (if b = b then _ else _) = _
    rw [if_pos rfl]; exact hd

theorem add_plain (b o j : Nat) : (⟨b, o, none⟩ : Addr).add j = ⟨b, o + j, none⟩ := by unfold Addr.add; split <;> simp_all

/-- What is read. -/
theorem readCells_sim {P : Program} {top : Nat} {g : G} {h : H} {w : World} (hr : R P top g h w) {a : D} {n : Nat} {cs : List D} (hc : readCells h a n = some cs) {x : Value} (hx : VRel g a x) :
    ∃ b o vs, x = .pointer (some ⟨b, o, none⟩) ∧ VRels g cs vs ∧ vs.length = n ∧ ∀ j v, vs[j]? = some v → w.cell? ⟨b, o + j, none⟩ = some v := by
  cases a <;> simp only [readCells] at hc <;> try (simp at hc; done)
  · rename_i l off
    cases hx with
    | ptr hb =>
      rename_i b
      cases hm : h.mem.get l with
      | none => simp [hm] at hc
      | some o =>
        cases o <;> simp only [hm] at hc <;> try (simp at hc; done)
        rename_i t ds
        cases hq : Nat.beq (List.take n (List.drop off ds)).length n with
        | false => rw [hq] at hc; cases hc
        | true =>
          simp only [hq, cond_true, Option.some.injEq] at hc
          subst hc
          obtain ⟨b', ob, h1, h2, h3⟩ := hr.obj l _ hm (by simp)
          rw [hb] at h1
          cases h1
          cases h3 with
          | cells hv =>
            rename_i c
            refine ⟨b, off, (c.toList.drop off).take n, rfl, (hv.drop off).take n, ?_, fun j v hj => ?_⟩
            · rw [← ((hv.drop off).take n).1]; exact Nat.eq_of_beq_eq_true hq
            · rw [List.getElem?_take] at hj
              split at hj
              · rw [List.getElem?_drop] at hj
                rw [cell_of_row w b (off + j) c t (0, 0) h2]; simpa using hj
              · cases hj
  · rename_i ds
    cases hx with
    | ep hi =>
      rename_i b o
      cases hq : Nat.beq (List.take n ds).length n with
      | false => rw [hq] at hc; cases hc
      | true =>
        simp only [hq, cond_true, Option.some.injEq] at hc
        subst hc
        have hlen : (List.take n ds).length = n := Nat.eq_of_beq_eq_true hq
        have hex : ∀ j, j < n → ∃ d v, ds[j]? = some d ∧ w.cell? ⟨b, o + j, none⟩ = some v ∧ VRel g d v := fun j hj => by
          have hjl : j < ds.length := by simp at hlen; omega
          obtain ⟨v, hv, hvr⟩ := hr.imm b (o + j) ds[j] (hi j _ (List.getElem?_eq_getElem hjl))
          exact ⟨ds[j], v, List.getElem?_eq_getElem hjl, hv, hvr⟩
        refine ⟨b, o, (List.range n).map fun j => (w.cell? ⟨b, o + j, none⟩).getD default, rfl, ⟨by rw [hlen]; simp, fun j d v hd hv => ?_⟩, by simp, fun j v hj => ?_⟩
        · have hj : j < n := by have := (List.getElem?_eq_some_iff.1 hd).1; omega
          obtain ⟨d', v', h1, h2, h3⟩ := hex j hj
          rw [List.getElem?_take_of_lt hj, h1] at hd
          cases hd
          simp [hj, h2] at hv
          subst hv
          exact h3
        · have hjn : j < n := by have := (List.getElem?_eq_some_iff.1 hj).1; simpa using this
          obtain ⟨d', v', h1, h2, h3⟩ := hex j hjn
          simp [hjn, h2] at hj
          subst hj
          exact h2
end Go.Abs
