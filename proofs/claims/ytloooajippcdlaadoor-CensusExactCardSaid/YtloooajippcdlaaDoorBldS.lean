/- rows.Build's own memory, in blocks by tags: 0 the table's box, 1 its starts, 2 its labels, 3 the headers of the whole rows, 4 those rows, 5 the classes, 6 the headers of the short rows, 7 what is being filled, 8 the short rows. No function of the program in sight. -/
import Derived.Test.YtloooajippcdlaaDoorGrouped
namespace Go.Proofs.YtloooajippcdlaaDoor
open Go.RowKit

/-- the table's cells -/
def rF (a b c d e : Value) : Nat → Value
  | 0 => a
  | 1 => b
  | 2 => c
  | 3 => d
  | _ => e
theorem rF_at {i : Nat} (h : i < 5) : i = 0 ∨ i = 1 ∨ i = 2 ∨ i = 3 ∨ i = 4 := by omega

section
variable {S : Nat → Prop} {w w0 wr w' w2 w4 : World} {own own' : Nat → Nat} {k B rb n i : Nat} {e t : TypeId} {f : Nat → Value} {v v' x : Value} {xs : List Value}

theorem Keeps.and_l {T : Nat → Prop} (h : Keeps S w own w' own') : Keeps (fun g => S g ∧ T g) w own w' own' := h.mono fun _ h => h.1
theorem Keeps.and_r {T : Nat → Prop} (h : Keeps S w own w' own') : Keeps (fun g => T g ∧ S g) w own w' own' := h.mono fun _ h => h.2

/-- an element is put behind a list whose header stands in the box -/
theorem Blk.grow (hb : Blk 0 wr own B rb t n f) (hl : Lst k wr own B e v xs) (hk : k ≠ 0) (hx : Ext wr w2) (hown : w4.ownsRow B e 1 v' (xs.length + 1) (xs ++ [x])) (hg : w2.grownBy w4 v.ownBlock) (hat : v'.ownBlock = v.ownBlock ∨ v'.ownBlock = some w2.heap.size) (i : Nat) :
    Blk 0 (w4.setCell ⟨rb, i, none⟩ v') (newTag wr own k) B rb t n (fun j => if j = i then v' else f j) ∧ Lst k (w4.setCell ⟨rb, i, none⟩ v') (newTag wr own k) B e v' (xs ++ [x]) ∧
    Keeps (fun g => g ≠ 0 ∧ g ≠ k) wr own (w4.setCell ⟨rb, i, none⟩ v') (newTag wr own k) ∧ ∀ w0, Ext w0 wr → w0.heap.size ≤ B → Ext w0 (w4.setCell ⟨rb, i, none⟩ v') := by
  obtain ⟨h1, h2⟩ := hl.push hx hown hg hat
  have h3 := hb.keep h2 (by simpa using hk.symm)
  obtain ⟨h4, h5⟩ := h3.set i v'
  exact ⟨h4, h1.keep h5 hk, (h2.mono fun _ h => h.2).trans (h5.mono fun _ h => h.1), fun w0 h0 hB => h3.set_ext (hl.push_ext h0 hB hx hg) hB i v'⟩
end

/-- the table in the making, before its columns are told apart -/
structure BldS (w wr : World) (own : Nat → Nat) (rb : Nat) (sv lv nv : Value) (hs : List Value) (starts : List Nat) (labels : List Int) (rows : List (List Int)) : Prop where
  ext : Ext w wr
  box : Blk 0 wr own w.heap.size rb 67 5 (rF (.slice none 0 0) (.int .i64 0) sv (.slice none 0 0) lv)
  starts : Lst 1 wr own w.heap.size 3 sv (intsV (nI starts))
  labels : Lst 2 wr own w.heap.size 3 lv (intsV labels)
  hdr : Lst 3 wr own w.heap.size 23 nv hs
  rows : Rws 4 wr own w.heap.size hs rows

section
variable {w wr w' w2 w4 : World} {own own' : Nat → Nat} {rb : Nat} {sv lv nv : Value} {hs : List Value} {starts : List Nat} {labels : List Int} {rows : List (List Int)}
theorem BldS.keep (h : BldS w wr own rb sv lv nv hs starts labels rows) (hx : Ext w w') (hk : Keeps (· ≤ 4) wr own w' own') : BldS w w' own' rb sv lv nv hs starts labels rows :=
  ⟨hx, h.box.keep hk (by omega), h.starts.keep hk (by omega), h.labels.keep hk (by omega), h.hdr.keep hk (by omega), h.rows.keep hk (by omega)⟩
theorem BldS.more (h : BldS w wr own rb sv lv nv hs starts labels rows) (hx : Ext wr w') : BldS w w' own rb sv lv nv hs starts labels rows := h.keep (h.ext.trans hx) (.ext hx)
/-- what is new bears a tag of its own -/
theorem BldS.new (h : BldS w wr own rb sv lv nv hs starts labels rows) (hx : Ext wr w') (k : Nat) : BldS w w' (newTag wr own k) rb sv lv nv hs starts labels rows := h.keep (h.ext.trans hx) (.new hx k)
/-- a cell of what is being filled -/
theorem BldS.fill (h : BldS w wr own rb sv lv nv hs starts labels rows) {k b n : Nat} {t : TypeId} {f : Nat → Value} (hb : Blk k wr own w.heap.size b t n f) (hk : 4 < k) (i : Nat) (v : Value) : BldS w (wr.setCell ⟨b, i, none⟩ v) own rb sv lv nv hs starts labels rows :=
  h.keep (hb.set_ext h.ext (Nat.le_refl _) i v) ((hb.set i v).2.mono fun _ h => by omega)

/-- where a mode starts -/
theorem BldS.start (h : BldS w wr own rb sv lv nv hs starts labels rows) {v' : Value} {n : Nat} (hx : Ext wr w2) (hown : w4.ownsRow w.heap.size 3 1 v' (starts.length + 1) (intsV (nI starts) ++ [.int .i64 (n : Nat)])) (hg : w2.grownBy w4 sv.ownBlock)
    (hat : v'.ownBlock = sv.ownBlock ∨ v'.ownBlock = some w2.heap.size) : BldS w (w4.setCell ⟨rb, 2, none⟩ v') (newTag wr own 1) rb v' lv nv hs (starts ++ [n]) labels rows ∧ Keeps (fun g => g ≠ 0 ∧ g ≠ 1) wr own (w4.setCell ⟨rb, 2, none⟩ v') (newTag wr own 1) := by
  have hl : (intsV (nI starts)).length = starts.length := by simp [intsV, nI]
  obtain ⟨h1, h2, h3, h4⟩ := h.box.grow h.starts (by omega) hx (by rw [hl]; exact hown) hg hat 2
  refine ⟨⟨h4 w h.ext (Nat.le_refl _), h1.congr fun i hi => ?_, ?_, h.labels.keep h3 (by omega), h.hdr.keep h3 (by omega), h.rows.keep h3 (by omega)⟩, h3⟩
  · rcases rF_at hi with rfl | rfl | rfl | rfl | rfl <;> rfl
  · have e : intsV (nI (starts ++ [n])) = intsV (nI starts) ++ [.int .i64 (n : Nat)] := by simp [intsV, nI]
    rw [e]; exact h2
/-- a state's label -/
theorem BldS.label (h : BldS w wr own rb sv lv nv hs starts labels rows) {v' : Value} {x : Int} (hx : Ext wr w2) (hown : w4.ownsRow w.heap.size 3 1 v' (labels.length + 1) (intsV labels ++ [.int .i64 x])) (hg : w2.grownBy w4 lv.ownBlock)
    (hat : v'.ownBlock = lv.ownBlock ∨ v'.ownBlock = some w2.heap.size) : BldS w (w4.setCell ⟨rb, 4, none⟩ v') (newTag wr own 2) rb sv v' nv hs starts (labels ++ [x]) rows ∧ Keeps (fun g => g ≠ 0 ∧ g ≠ 2) wr own (w4.setCell ⟨rb, 4, none⟩ v') (newTag wr own 2) := by
  have hl : (intsV labels).length = labels.length := by simp [intsV]
  obtain ⟨h1, h2, h3, h4⟩ := h.box.grow h.labels (by omega) hx (by rw [hl]; exact hown) hg hat 4
  refine ⟨⟨h4 w h.ext (Nat.le_refl _), h1.congr fun i hi => ?_, h.starts.keep h3 (by omega), ?_, h.hdr.keep h3 (by omega), h.rows.keep h3 (by omega)⟩, h3⟩
  · rcases rF_at hi with rfl | rfl | rfl | rfl | rfl <;> rfl
  · have e : intsV (labels ++ [x]) = intsV labels ++ [.int .i64 x] := by simp [intsV]
    rw [e]; exact h2
/-- a row that is full is put behind: its block's tag 7 becomes 4 -/
theorem BldS.row (h : BldS w wr own rb sv lv nv hs starts labels rows) {v' : Value} {b : Nat} {f : Nat → Value} {l : List Int} (hb : Blk 7 wr own w.heap.size b 3 256 f) (hl : l.length = 256) (hf : ∀ i, i < 256 → f i = .int .i64 (l.getD i 0)) (hx : Ext wr w2)
    (hown : w4.ownsRow w.heap.size 23 1 v' (hs.length + 1) (hs ++ [.slice (some ⟨b, 0, none⟩) 256 256])) (hg : w2.grownBy w4 nv.ownBlock) (hat : v'.ownBlock = nv.ownBlock ∨ v'.ownBlock = some w2.heap.size) :
    ∃ own', BldS w w4 own' rb sv lv v' (hs ++ [.slice (some ⟨b, 0, none⟩) 256 256]) starts labels (rows ++ [l]) ∧ Keeps (fun g => 4 < g ∧ g ≠ 7) wr own w4 own' := by
  obtain ⟨h1, h2⟩ := h.hdr.push hx hown hg hat
  have h3 : Lst 7 w4 (newTag wr own 3) w.heap.size 3 (.slice (some ⟨b, 0, none⟩) 256 256) (intsV l) := (hb.keep h2 (by omega)).lst (by unfold maxLen; omega) (by simp [intsV, hl]) fun i x hi => by
    have hi2 : i < l.length := by have := (List.getElem?_eq_some_iff.1 hi).1; simpa [intsV] using this
    rw [hf i (by omega)]
    unfold intsV at hi
    rw [List.getElem?_map, List.getElem?_eq_getElem hi2] at hi
    rw [List.getD_eq_getElem?_getD, List.getElem?_eq_getElem hi2]
    simpa using hi
  have hj := Keeps.join w4 (newTag wr own 3) 7 4
  refine ⟨joinTag (newTag wr own 3) 7 4, ⟨h.hdr.push_ext h.ext (Nat.le_refl _) hx hg, (h.box.keep h2 (by omega)).keep hj (by omega), (h.starts.keep h2 (by omega)).keep hj (by omega), (h.labels.keep h2 (by omega)).keep hj (by omega), h1.keep hj (by omega), (h.rows.keep h2 (by omega)).join (by omega) h3⟩, ?_⟩
  exact (h2.mono fun g hg => by omega).trans (hj.mono fun g hg => hg.2)
end

/-- one mode's states are put behind: with it the numbers of its states (tag 9), which live, the automaton's box (tag 10) -/
structure ModS (w wr : World) (own : Nat → Nat) (rb : Nat) (sv lv nv : Value) (hs : List Value) (starts : List Nat) (labels : List Int) (rows : List (List Int)) (N ab gl db : Nat) (F : Nat → Int) (M : Nat → Bool) (D : Nat → Value) : Prop where
  bld : BldS w wr own rb sv lv nv hs starts labels rows
  num : Blk 9 wr own w.heap.size ab 3 N (fun j => .int .i64 (F j))
  liv : Blk 10 wr own w.heap.size gl 4 N (fun j => .bool (M j))
  box : Blk 10 wr own w.heap.size db 25 2 D

section
variable {w wr w' w2 w4 : World} {own own' : Nat → Nat} {rb N ab gl db : Nat} {sv lv nv : Value} {hs : List Value} {starts : List Nat} {labels : List Int} {rows : List (List Int)} {F : Nat → Int} {M : Nat → Bool} {D : Nat → Value}
theorem ModS.keep (h : ModS w wr own rb sv lv nv hs starts labels rows N ab gl db F M D) (hx : Ext w w') (hk : Keeps (fun g => g ≤ 4 ∨ g = 9 ∨ g = 10) wr own w' own') : ModS w w' own' rb sv lv nv hs starts labels rows N ab gl db F M D :=
  ⟨h.bld.keep hx (hk.mono fun _ h => .inl h), h.num.keep hk (by omega), h.liv.keep hk (by omega), h.box.keep hk (by omega)⟩
theorem ModS.more (h : ModS w wr own rb sv lv nv hs starts labels rows N ab gl db F M D) (hx : Ext wr w') : ModS w w' own rb sv lv nv hs starts labels rows N ab gl db F M D := h.keep (h.bld.ext.trans hx) (.ext hx)
theorem ModS.new (h : ModS w wr own rb sv lv nv hs starts labels rows N ab gl db F M D) (hx : Ext wr w') (k : Nat) : ModS w w' (newTag wr own k) rb sv lv nv hs starts labels rows N ab gl db F M D := h.keep (h.bld.ext.trans hx) (.new hx k)
theorem ModS.set (h : ModS w wr own rb sv lv nv hs starts labels rows N ab gl db F M D) (i : Nat) (x : Int) : ModS w (wr.setCell ⟨ab, i, none⟩ (.int .i64 x)) own rb sv lv nv hs starts labels rows N ab gl db (fun j => if j = i then x else F j) M D := by
  obtain ⟨h1, h2⟩ := h.num.set i (.int .i64 x)
  exact ⟨h.bld.fill h.num (by omega) i _, h1.congr fun j _ => by split <;> rfl, h.liv.keep h2 (by omega), h.box.keep h2 (by omega)⟩
theorem ModS.congr (h : ModS w wr own rb sv lv nv hs starts labels rows N ab gl db F M D) {F' : Nat → Int} (e : ∀ j, j < N → F j = F' j) : ModS w wr own rb sv lv nv hs starts labels rows N ab gl db F' M D := { h with num := h.num.congr fun j hj => by rw [e j hj] }
theorem ModS.start (h : ModS w wr own rb sv lv nv hs starts labels rows N ab gl db F M D) {v' : Value} {n : Nat} (hx : Ext wr w2) (hown : w4.ownsRow w.heap.size 3 1 v' (starts.length + 1) (intsV (nI starts) ++ [.int .i64 (n : Nat)])) (hg : w2.grownBy w4 sv.ownBlock)
    (hat : v'.ownBlock = sv.ownBlock ∨ v'.ownBlock = some w2.heap.size) : ModS w (w4.setCell ⟨rb, 2, none⟩ v') (newTag wr own 1) rb v' lv nv hs (starts ++ [n]) labels rows N ab gl db F M D := by
  obtain ⟨h1, h2⟩ := h.bld.start hx hown hg hat
  exact ⟨h1, h.num.keep h2 (by omega), h.liv.keep h2 (by omega), h.box.keep h2 (by omega)⟩
theorem ModS.begin (h : BldS w wr own rb sv lv nv hs starts labels rows) {c0 c1 : Value} {w3 : World} {g : Nat} (hx : Ext (wr.alloc (.cells #[c0, c1] 25)) w3) (hg : (wr.alloc (.cells #[c0, c1] 25)).heap.size ≤ g) (hr : w3.rowIs g 4 N (fun j => .bool (M j))) :
    ModS w (w3.alloc (.cells (madeCells #[.int .i64 0] N) 3)) (newTag w3 (newTag wr own 10) 9) rb sv lv nv hs starts labels rows N w3.heap.size g wr.heap.size (fun _ => 0) M (fun j => if j = 0 then c0 else c1) := by
  have hs1 := h.ext.size
  have hs2 := hx.size
  simp only [World.size_alloc] at hg hs2
  have hx2 := (Ext.box wr (.cells #[c0, c1] 25)).trans hx
  have hb : Blk 10 w3 (newTag wr own 10) w.heap.size wr.heap.size 25 2 (fun j => if j = 0 then c0 else c1) :=
    ⟨rowIs_ext hx (World.rowIs_alloc wr #[c0, c1] _ _ fun i hi => by rcases (by simp at hi; omega : i = 0 ∨ i = 1) with rfl | rfl <;> rfl), newTag_new (Nat.le_refl _), hs1⟩
  have hl : Blk 10 w3 (newTag wr own 10) w.heap.size g 4 N (fun j => .bool (M j)) := ⟨hr, newTag_new (by omega), by omega⟩
  exact ⟨(h.new hx2 10).new (Ext.box _ _) 9, Blk.made w3 _ 9 (by omega) _ _ (size_madeCells _ _) _ fun i hi => made_one _ hi, hl.keep (S := fun _ => True) (.new (Ext.box _ _) 9) trivial, hb.keep (S := fun _ => True) (.new (Ext.box _ _) 9) trivial⟩
theorem ModS.label (h : ModS w wr own rb sv lv nv hs starts labels rows N ab gl db F M D) {v' : Value} {x : Int} (hx : Ext wr w2) (hown : w4.ownsRow w.heap.size 3 1 v' (labels.length + 1) (intsV labels ++ [.int .i64 x])) (hg : w2.grownBy w4 lv.ownBlock)
    (hat : v'.ownBlock = lv.ownBlock ∨ v'.ownBlock = some w2.heap.size) : ModS w (w4.setCell ⟨rb, 4, none⟩ v') (newTag wr own 2) rb sv v' nv hs starts (labels ++ [x]) rows N ab gl db F M D := by
  obtain ⟨h1, h2⟩ := h.bld.label hx hown hg hat
  exact ⟨h1, h.num.keep h2 (by omega), h.liv.keep h2 (by omega), h.box.keep h2 (by omega)⟩
theorem ModS.fill (h : ModS w wr own rb sv lv nv hs starts labels rows N ab gl db F M D) {b n : Nat} {t : TypeId} {f : Nat → Value} (hb : Blk 7 wr own w.heap.size b t n f) (i : Nat) (v : Value) : ModS w (wr.setCell ⟨b, i, none⟩ v) own rb sv lv nv hs starts labels rows N ab gl db F M D :=
  h.keep (hb.set_ext h.bld.ext (Nat.le_refl _) i v) ((hb.set i v).2.mono fun _ h => by omega)
theorem ModS.row (h : ModS w wr own rb sv lv nv hs starts labels rows N ab gl db F M D) {v' : Value} {b : Nat} {f : Nat → Value} {l : List Int} (hb : Blk 7 wr own w.heap.size b 3 256 f) (hl : l.length = 256) (hf : ∀ i, i < 256 → f i = .int .i64 (l.getD i 0)) (hx : Ext wr w2)
    (hown : w4.ownsRow w.heap.size 23 1 v' (hs.length + 1) (hs ++ [.slice (some ⟨b, 0, none⟩) 256 256])) (hg : w2.grownBy w4 nv.ownBlock) (hat : v'.ownBlock = nv.ownBlock ∨ v'.ownBlock = some w2.heap.size) :
    ∃ own', ModS w w4 own' rb sv lv v' (hs ++ [.slice (some ⟨b, 0, none⟩) 256 256]) starts labels (rows ++ [l]) N ab gl db F M D := by
  obtain ⟨own', h1, h2⟩ := h.bld.row hb hl hf hx hown hg hat
  exact ⟨own', h1, h.num.keep h2 (by omega), h.liv.keep h2 (by omega), h.box.keep h2 (by omega)⟩
end

/-- the rows by classes in the making -/
structure ShS (w wr : World) (own : Nat → Nat) (rb : Nat) (cv : Value) (K : Nat) (sv lv nv xv : Value) (hs xs : List Value) (starts : List Nat) (labels : List Int) (classes : List Int) (rows shorts : List (List Int)) : Prop where
  ext : Ext w wr
  box : Blk 0 wr own w.heap.size rb 67 5 (rF cv (.int .i64 (K : Int)) sv xv lv)
  starts : Lst 1 wr own w.heap.size 3 sv (intsV (nI starts))
  labels : Lst 2 wr own w.heap.size 3 lv (intsV labels)
  classes : Lst 5 wr own w.heap.size 3 cv (intsV classes)
  hdr : Lst 3 wr own w.heap.size 23 nv hs
  rows : Rws 4 wr own w.heap.size hs rows
  xhdr : Lst 6 wr own w.heap.size 23 xv xs
  shorts : Rws 8 wr own w.heap.size xs shorts

section
variable {w wr w' w2 w4 : World} {own own' : Nat → Nat} {rb K : Nat} {cv sv lv nv xv : Value} {hs xs : List Value} {starts : List Nat} {labels classes : List Int} {rows shorts : List (List Int)}
theorem ShS.keep (h : ShS w wr own rb cv K sv lv nv xv hs xs starts labels classes rows shorts) (hx : Ext w w') (hk : Keeps (· ≠ 7) wr own w' own') : ShS w w' own' rb cv K sv lv nv xv hs xs starts labels classes rows shorts :=
  ⟨hx, h.box.keep hk (by omega), h.starts.keep hk (by omega), h.labels.keep hk (by omega), h.classes.keep hk (by omega), h.hdr.keep hk (by omega), h.rows.keep hk (by omega), h.xhdr.keep hk (by omega), h.shorts.keep hk (by omega)⟩
theorem ShS.more (h : ShS w wr own rb cv K sv lv nv xv hs xs starts labels classes rows shorts) (hx : Ext wr w') : ShS w w' own rb cv K sv lv nv xv hs xs starts labels classes rows shorts := h.keep (h.ext.trans hx) (.ext hx)
theorem ShS.fill (h : ShS w wr own rb cv K sv lv nv xv hs xs starts labels classes rows shorts) {b n : Nat} {t : TypeId} {f : Nat → Value} (hb : Blk 7 wr own w.heap.size b t n f) (i : Nat) (v : Value) :
    ShS w (wr.setCell ⟨b, i, none⟩ v) own rb cv K sv lv nv xv hs xs starts labels classes rows shorts := h.keep (hb.set_ext h.ext (Nat.le_refl _) i v) (hb.set i v).2
end

/-- the header of a new row is put behind (the row bears tag 7): before it is full, the table's rows are one fewer -/
structure ShR (w wr : World) (own : Nat → Nat) (rb : Nat) (cv : Value) (K : Nat) (sv lv nv xv : Value) (hs xs : List Value) (starts : List Nat) (labels : List Int) (classes : List Int) (rows shorts : List (List Int)) (b : Nat) (f : Nat → Value) : Prop where
  ext : Ext w wr
  box : Blk 0 wr own w.heap.size rb 67 5 (rF cv (.int .i64 (K : Int)) sv xv lv)
  starts : Lst 1 wr own w.heap.size 3 sv (intsV (nI starts))
  labels : Lst 2 wr own w.heap.size 3 lv (intsV labels)
  classes : Lst 5 wr own w.heap.size 3 cv (intsV classes)
  hdr : Lst 3 wr own w.heap.size 23 nv hs
  rows : Rws 4 wr own w.heap.size hs rows
  xhdr : Lst 6 wr own w.heap.size 23 xv (xs ++ [.slice (some ⟨b, 0, none⟩) K K])
  shorts : Rws 8 wr own w.heap.size xs shorts
  new : Blk 7 wr own w.heap.size b 3 K f

section
variable {w wr w' w2 w4 : World} {own own' : Nat → Nat} {rb K : Nat} {cv sv lv nv xv : Value} {hs xs : List Value} {starts : List Nat} {labels classes : List Int} {rows shorts : List (List Int)}
theorem ShS.row (h : ShS w wr own rb cv K sv lv nv xv hs xs starts labels classes rows shorts) {v' : Value} {b : Nat} {f : Nat → Value} (hb : Blk 7 wr own w.heap.size b 3 K f) (hx : Ext wr w2)
    (hown : w4.ownsRow w.heap.size 23 1 v' (xs.length + 1) (xs ++ [.slice (some ⟨b, 0, none⟩) K K])) (hg : w2.grownBy w4 xv.ownBlock) (hat : v'.ownBlock = xv.ownBlock ∨ v'.ownBlock = some w2.heap.size) :
    ShR w (w4.setCell ⟨rb, 3, none⟩ v') (newTag wr own 6) rb cv K sv lv nv v' hs xs starts labels classes rows shorts b f := by
  obtain ⟨h1, h2, h3, h4⟩ := h.box.grow h.xhdr (by omega) hx hown hg hat 3
  exact ⟨h4 w h.ext (Nat.le_refl _), h1.congr fun i hi => by rcases rF_at hi with rfl | rfl | rfl | rfl | rfl <;> rfl, h.starts.keep h3 (by omega), h.labels.keep h3 (by omega), h.classes.keep h3 (by omega), h.hdr.keep h3 (by omega), h.rows.keep h3 (by omega), h2, h.shorts.keep h3 (by omega), hb.keep h3 (by omega)⟩
variable {b : Nat} {f : Nat → Value}
theorem ShR.set (h : ShR w wr own rb cv K sv lv nv xv hs xs starts labels classes rows shorts b f) (i : Nat) (v : Value) : ShR w (wr.setCell ⟨b, i, none⟩ v) own rb cv K sv lv nv xv hs xs starts labels classes rows shorts b (fun j => if j = i then v else f j) := by
  obtain ⟨h1, h2⟩ := h.new.set i v
  exact ⟨h.new.set_ext h.ext (Nat.le_refl _) i v, h.box.keep h2 (by omega), h.starts.keep h2 (by omega), h.labels.keep h2 (by omega), h.classes.keep h2 (by omega), h.hdr.keep h2 (by omega), h.rows.keep h2 (by omega), h.xhdr.keep h2 (by omega), h.shorts.keep h2 (by omega), h1⟩
theorem ShR.more (h : ShR w wr own rb cv K sv lv nv xv hs xs starts labels classes rows shorts b f) (hx : Ext wr w') : ShR w w' own rb cv K sv lv nv xv hs xs starts labels classes rows shorts b f :=
  ⟨h.ext.trans hx, h.box.ext hx, h.starts.ext hx, h.labels.ext hx, h.classes.ext hx, h.hdr.ext hx, h.rows.ext hx, h.xhdr.ext hx, h.shorts.ext hx, h.new.ext hx⟩
theorem ShR.congr (h : ShR w wr own rb cv K sv lv nv xv hs xs starts labels classes rows shorts b f) {f' : Nat → Value} (e : ∀ i, i < K → f i = f' i) : ShR w wr own rb cv K sv lv nv xv hs xs starts labels classes rows shorts b f' := { h with new := h.new.congr e }
/-- it is full -/
theorem ShR.done (h : ShR w wr own rb cv K sv lv nv xv hs xs starts labels classes rows shorts b f) (hK : K ≤ 256) {l : List Int} (hl : l.length = K) (hf : ∀ i, i < K → f i = .int .i64 (l.getD i 0)) :
    ∃ own', ShS w wr own' rb cv K sv lv nv xv hs (xs ++ [.slice (some ⟨b, 0, none⟩) K K]) starts labels classes rows (shorts ++ [l]) := by
  have h3 : Lst 7 wr own w.heap.size 3 (.slice (some ⟨b, 0, none⟩) K K) (intsV l) := h.new.lst (by unfold maxLen; omega) (by simp [intsV, hl]) fun i x hi => by
    have hi2 : i < l.length := by have := (List.getElem?_eq_some_iff.1 hi).1; simpa [intsV] using this
    rw [hf i (by omega)]
    unfold intsV at hi
    rw [List.getElem?_map, List.getElem?_eq_getElem hi2] at hi
    rw [List.getD_eq_getElem?_getD, List.getElem?_eq_getElem hi2]
    simpa using hi
  have hj := Keeps.join wr own 7 8
  exact ⟨joinTag own 7 8, h.ext, h.box.keep hj (by omega), h.starts.keep hj (by omega), h.labels.keep hj (by omega), h.classes.keep hj (by omega), h.hdr.keep hj (by omega), h.rows.keep hj (by omega), h.xhdr.keep hj (by omega), h.shorts.join (by omega) h3⟩
end

section
variable {w : World} {b : Nat}
theorem rowIs_set5 {t : TypeId} {f : Nat → Value} (h : w.rowIs b t 5 f) (a0 a1 a2 a3 a4 : Value) :
    (((((w.setCell ⟨b, 0, none⟩ a0).setCell ⟨b, 1, none⟩ a1).setCell ⟨b, 2, none⟩ a2).setCell ⟨b, 3, none⟩ a3).setCell ⟨b, 4, none⟩ a4).rowIs b t 5 (rF a0 a1 a2 a3 a4) :=
  (((((h.set 0 a0).set 1 a1).set 2 a2).set 3 a3).set 4 a4).congr fun i hi => by rcases rF_at hi with rfl | rfl | rfl | rfl | rfl <;> rfl
theorem heap_set5 {a0 a1 a2 a3 a4 : Value} {g : Nat} (h : g ≠ b) :
    (((((w.setCell ⟨b, 0, none⟩ a0).setCell ⟨b, 1, none⟩ a1).setCell ⟨b, 2, none⟩ a2).setCell ⟨b, 3, none⟩ a3).setCell ⟨b, 4, none⟩ a4).heap[g]? = w.heap[g]? := by
  rw [Below.heap_setCell _ _ _ _ (by simpa using h), Below.heap_setCell _ _ _ _ (by simpa using h), Below.heap_setCell _ _ _ _ (by simpa using h), Below.heap_setCell _ _ _ _ (by simpa using h), Below.heap_setCell _ _ _ _ (by simpa using h)]
end
end Go.Proofs.YtloooajippcdlaaDoor
