/- rows.Build's columns, its classes and its short rows, in blocks by tags. No function of the program in sight. -/
import Derived.Test.YtloooajippcdlaaDoorBldS
import Derived.Test.YtloooajippcdlaaDoorTab
import Derived.Test.YtloooajippcdlaaDoorColumn
namespace Go.Proofs.YtloooajippcdlaaDoor
open Go.RowKit

section
variable {w wr w' w2 w3 w4 : World} {own : Nat → Nat} {rb m b : Nat} {sv lv nv cv cv' : Value} {hs : List Value} {starts : List Nat} {labels : List Int} {rows : List (List Int)} {G : Nat → Nat}

/-- the columns, as far as they are told: their headers (tag 11), a block for each (tag 12) -/
structure ColS (w wr : World) (own : Nat → Nat) (rb : Nat) (sv lv nv : Value) (hs : List Value) (starts : List Nat) (labels : List Int) (rows : List (List Int)) (m : Nat) (cv : Value) (b : Nat) (G : Nat → Nat) : Prop where
  bld : BldS w wr own rb sv lv nv hs starts labels rows
  hdr : Lst 11 wr own w.heap.size 112 cv ((List.range b).map (hdrV m G))
  col : ∀ j, j < b → Blk 12 wr own w.heap.size (G j) 163 (m * 8) (colV rows j rows.length)
theorem ColS.begin (h : BldS w wr own rb sv lv nv hs starts labels rows) (m : Nat) : ColS w wr own rb sv lv nv hs starts labels rows m (.slice none 0 0) 0 (fun _ => 0) := ⟨h, Lst.nil .., fun j hj => by omega⟩
theorem ColS.push (h : ColS w wr own rb sv lv nv hs starts labels rows m cv b G) (hr : w2.rowIs wr.heap.size 163 (m * 8) (colV rows b rows.length)) (hx : Ext wr w2) (hx2 : Ext w2 w3)
    (hown : w4.ownsRow w.heap.size 112 1 cv' (b + 1) ((List.range b).map (hdrV m G) ++ [.slice (some ⟨wr.heap.size, 0, none⟩) m m])) (hg : w3.grownBy w4 cv.ownBlock) (hat : cv'.ownBlock = cv.ownBlock ∨ cv'.ownBlock = some w3.heap.size) :
    ∃ own', ColS w w4 own' rb sv lv nv hs starts labels rows m cv' (b + 1) (fun j => if j = b then wr.heap.size else G j) := by
  have k0 : Keeps (fun _ => True) wr own w2 (newTag wr own 12) := .new hx 12
  have hlen : ((List.range b).map (hdrV m G)).length = b := by simp
  have l2 := h.hdr.keep k0 trivial
  obtain ⟨p1, p2⟩ := l2.push hx2 (by rw [hlen]; exact hown) hg hat
  have hb : Blk 12 w2 (newTag wr own 12) w.heap.size wr.heap.size 163 (m * 8) (colV rows b rows.length) := ⟨hr, newTag_new (Nat.le_refl _), h.bld.ext.size⟩
  have e : (List.range (b + 1)).map (hdrV m (fun j => if j = b then wr.heap.size else G j)) = (List.range b).map (hdrV m G) ++ [.slice (some ⟨wr.heap.size, 0, none⟩) m m] := by
    rw [range_snoc]
    congr 1
    · refine List.map_congr_left fun j hj => ?_
      have : j ≠ b := by have := List.mem_range.1 hj; omega
      simp only [hdrV, if_neg this]
    · simp only [hdrV, if_pos]
  refine ⟨_, h.bld.keep (l2.push_ext (h.bld.ext.trans hx) (Nat.le_refl _) hx2 hg) ((k0.mono fun _ _ => trivial).trans (p2.mono fun _ _ => by omega)), by rw [e]; exact p1, fun j hj => ?_⟩
  by_cases ej : j = b
  · subst ej; simp only [if_pos]; exact hb.keep p2 (by omega)
  · simp only [if_neg ej]; exact ((h.col j (by omega)).keep k0 trivial).keep p2 (by omega)

def colF (rows : List (List Int)) (j x : Nat) : Int := if x < rows.length then (rows.getD x []).getD j 0 else 0
theorem cols_alike {rows : List (List Int)} {a b n : Nat} (h : rows.length ≤ n) : alike (colF rows a) (colF rows b) n = RM.same rows a b := by
  rw [Bool.eq_iff_iff, alike_iff, RM.same_iff]
  constructor
  · intro h1 r hr
    obtain ⟨i, hi, rfl⟩ := List.getElem_of_mem hr
    have := h1 i (by omega)
    unfold colF at this
    rw [if_pos hi, if_pos hi, show rows.getD i [] = rows[i] from getD_of (List.getElem?_eq_getElem hi)] at this
    exact this
  · intro h1 k _
    unfold colF
    by_cases e : k < rows.length
    · rw [if_pos e, if_pos e]
      exact h1 _ (mem_getD e)
    · rw [if_neg e, if_neg e]
theorem ColS.cols {gL cap : Nat} (h : ColS w wr own rb sv lv nv hs starts labels rows m (.slice (some ⟨gL, 0, none⟩) 256 cap) 256 G) : ColsIn wr gL m G (colF rows) :=
  ⟨fun j hj => h.hdr.cell (i := j) (x := hdrV m G j) (by rw [List.getElem?_map, List.getElem?_range hj]; rfl), fun j hj => (h.col j hj).row⟩

/-- the classes are told -/
theorem ShS.begin (h : BldS w wr own rb sv lv nv hs starts labels rows) (hx : Ext wr w') {classes : List Int} (hown : w'.ownsRow wr.heap.size 3 1 cv (intsV classes).length (intsV classes)) (K : Nat) :
    ShS w ((w'.setCell ⟨rb, 0, none⟩ cv).setCell ⟨rb, 1, none⟩ (.int .i64 (K : Int))) (newTag wr own 5) rb cv K sv lv nv (.slice none 0 0) hs [] starts labels classes rows [] := by
  have hn := h.new hx 5
  have hc : Lst 5 w' (newTag wr own 5) w.heap.size 3 cv (intsV classes) := ⟨own_base hown h.ext.size, fun g hg => newTag_new (hown.lt g hg).1⟩
  obtain ⟨a1, a2⟩ := hn.box.set 0 cv
  obtain ⟨b1, b2⟩ := a1.set 1 (.int .i64 (K : Int))
  have hk := a2.trans b2
  exact ⟨a1.set_ext (hn.box.set_ext hn.ext (Nat.le_refl _) 0 cv) (Nat.le_refl _) 1 _, b1.congr fun i hi => by rcases rF_at hi with rfl | rfl | rfl | rfl | rfl <;> rfl, hn.starts.keep hk (by omega), hn.labels.keep hk (by omega), hc.keep hk (by omega), hn.hdr.keep hk (by omega), hn.rows.keep hk (by omega), .nil .., .nil ..⟩

theorem Lst.far {k B : Nat} {e : TypeId} {v : Value} {xs : List Value} (h : Lst k wr own B e v xs) (hb : ∀ g, B ≤ g → w'.heap[g]? = wr.heap[g]?) : Lst k w' own B e v xs :=
  ⟨own_block h.row fun g hg _ => hb g (h.row.lt g hg).1, h.tag⟩
theorem Rws.far {k B : Nat} {hs : List Value} {rows : List (List Int)} (h : Rws k wr own B hs rows) (hb : ∀ g, B ≤ g → w'.heap[g]? = wr.heap[g]?) : Rws k w' own B hs rows := ⟨h.len, fun i hv l h1 h2 => (h.row i hv l h1 h2).far hb⟩
/-- what can be read of the whole -/
theorem ShS.table {K : Nat} {xv : Value} {xs : List Value} {classes : List Int} {shorts : List (List Int)} (h : ShS w wr own rb cv K sv lv nv xv hs xs starts labels classes rows shorts) (hb : ∀ g, w.heap.size ≤ g → w'.heap[g]? = wr.heap[g]?)
    (h1 : classes.length ≤ 140737488355328) (h2 : starts.length ≤ 140737488355328) (h3 : labels.length ≤ 140737488355328) (h4 : shorts.length ≤ 140737488355328) (h5 : ∀ l ∈ shorts, l.length ≤ 140737488355328) :
    TableV w' cv sv xv lv ⟨classes, K, nI starts, shorts, labels⟩ :=
  ⟨(h.classes.far hb).ints h1, (h.starts.far hb).ints (by rw [nI_len]; exact h2), (h.shorts.far hb).read (h.xhdr.far hb) h4 h5, (h.labels.far hb).ints h3⟩

/-- the cells of a short row, as far as the bytes have been gone through -/
def FilledTo (rows : List (List Int)) (l : List Int) (c : Nat) (f : Nat → Value) : Prop := ∀ a, a < c → f (RM.cls rows a) = .int .i64 (l.getD a 0)
theorem FilledTo.step {rows : List (List Int)} {l : List Int} {c : Nat} {f : Nat → Value} (h : FilledTo rows l c f) (hl : l ∈ rows) : FilledTo rows l (c + 1) (fun j => if j = RM.cls rows c then .int .i64 (l.getD c 0) else f j) := by
  intro a ha
  show (if RM.cls rows a = RM.cls rows c then _ else _) = _
  by_cases e : RM.cls rows a = RM.cls rows c
  · rw [if_pos e, RM.same_iff.1 (RM.cls_eq.1 e) l hl]
  · rw [if_neg e]
    exact h a (by rcases Nat.lt_or_ge a c with h1 | h1; exact h1; exact absurd (by rw [show a = c by omega]) e)
theorem FilledTo.done {rows : List (List Int)} {l : List Int} {f : Nat → Value} (h : FilledTo rows l 256 f) {k : Nat} (hk : k < RM.ncls rows) : f k = .int .i64 ((RM.short rows l).getD k 0) := by
  have h1 : k < (RM.firsts rows LM.rowLen).length := by rw [RM.firsts_len]; exact hk
  obtain ⟨a, ha⟩ : ∃ a, (RM.firsts rows LM.rowLen)[k]? = some a := ⟨_, List.getElem?_eq_getElem h1⟩
  obtain ⟨h2, h3, h4⟩ := RM.firsts_of ha
  rw [LM.rowLen_eq] at h2
  have h5 : RM.cls rows a = k := by unfold RM.cls LM.num; rw [h3]; exact h4
  have h6 : (RM.short rows l).getD k 0 = l.getD a 0 := getD_of (by unfold RM.short; rw [List.getElem?_map, ha]; rfl)
  rw [h6, ← h5]; exact h a h2
theorem take_map_succ {α β : Type} {l : List α} {s : Nat} {x : α} (f : α → β) (h : l[s]? = some x) : (l.take (s + 1)).map f = (l.take s).map f ++ [f x] := by rw [take_get h, List.map_append]; rfl
end
end Go.Proofs.YtloooajippcdlaaDoor
