/- Memory of many parts: each block bears a tag; a part stays as it is where only blocks of other tags are written. No function of the program in sight. -/
import Derived.Test.YtihginaanlcilaaDoorOwn
namespace Go.Proofs.YtihginaanlcilaaDoor
open Go.RowKit

/-- the blocks whose tags lie in S are as they were, and bear the same tags -/
structure Keeps (S : Nat → Prop) (w : World) (own : Nat → Nat) (w' : World) (own' : Nat → Nat) : Prop where
  size : w.heap.size ≤ w'.heap.size
  same : ∀ g, g < w.heap.size → S (own g) → w'.heap[g]? = w.heap[g]? ∧ own' g = own g

section
variable {S : Nat → Prop} {w w' w'' w2 w4 : World} {own own' own'' : Nat → Nat}
theorem Keeps.refl (S : Nat → Prop) (w : World) (own : Nat → Nat) : Keeps S w own w own := ⟨Nat.le_refl _, fun _ _ _ => ⟨rfl, rfl⟩⟩
theorem Keeps.trans (h : Keeps S w own w' own') (k : Keeps S w' own' w'' own'') : Keeps S w own w'' own'' :=
  ⟨Nat.le_trans h.size k.size, fun g hg hs => by
    obtain ⟨h1, h2⟩ := h.same g hg hs
    obtain ⟨h3, h4⟩ := k.same g (Nat.lt_of_lt_of_le hg h.size) (by rw [h2]; exact hs)
    exact ⟨h3.trans h1, h4.trans h2⟩⟩
theorem Keeps.mono {T : Nat → Prop} (h : Keeps S w own w' own') (hT : ∀ k, T k → S k) : Keeps T w own w' own' := ⟨h.size, fun g hg hs => h.same g hg (hT _ hs)⟩
theorem Keeps.of_ext (hx : Ext w w') (ho : ∀ g, g < w.heap.size → own' g = own g) : Keeps S w own w' own' := ⟨hx.size, fun g hg _ => ⟨hx.block g hg, ho g hg⟩⟩
theorem Keeps.ext (hx : Ext w w') : Keeps S w own w' own := .of_ext hx fun _ _ => rfl
/-- what is new bears the tag k -/
def newTag (w : World) (own : Nat → Nat) (k g : Nat) : Nat := if g < w.heap.size then own g else k
theorem newTag_old {k g : Nat} (h : g < w.heap.size) : newTag w own k g = own g := if_pos h
theorem newTag_new {k g : Nat} (h : w.heap.size ≤ g) : newTag w own k g = k := if_neg (by omega)
theorem Keeps.new (hx : Ext w w') (k : Nat) : Keeps S w own w' (newTag w own k) := .of_ext hx fun _ hg => newTag_old hg
theorem Keeps.setCell {b o : Nat} {v : Value} {k : Nat} (hb : own b = k) (hS : ¬ S k) : Keeps S w own (w.setCell ⟨b, o, none⟩ v) own :=
  ⟨by rw [World.size_setCell]; exact Nat.le_refl _, fun g _ hs => ⟨Below.heap_setCell _ _ _ _ (by simp only [ne_eq]; rintro rfl; exact hS (by rw [← hb]; exact hs)), rfl⟩⟩

/-- a list of the call's own, in blocks of one tag -/
structure Lst (k : Nat) (w : World) (own : Nat → Nat) (B : Nat) (e : TypeId) (v : Value) (xs : List Value) : Prop where
  row : w.ownsRow B e 1 v xs.length xs
  tag : ∀ g, v.ownBlock = some g → own g = k
variable {k j B : Nat} {e : TypeId} {v v' : Value} {xs : List Value}
theorem Lst.nil (k : Nat) (w : World) (own : Nat → Nat) (B : Nat) (e : TypeId) : Lst k w own B e (.slice none 0 0) [] := ⟨World.ownsRow_nil _ _ _ _, fun g h => (by cases h)⟩
theorem Lst.keep (h : Lst k w own B e v xs) (hk : Keeps S w own w' own') (hS : S k) : Lst k w' own' B e v xs :=
  ⟨own_block h.row fun g hg hl => (hk.same g hl (by rw [h.tag g hg]; exact hS)).1, fun g hg => (hk.same g (h.row.lt g hg).2 (by rw [h.tag g hg]; exact hS)).2.trans (h.tag g hg)⟩
theorem Lst.ext (h : Lst k w own B e v xs) (hx : Ext w w') : Lst k w' own B e v xs := h.keep (S := fun _ => True) (.ext hx) trivial
/-- an element is put behind; what is new bears the list's tag -/
theorem Lst.push (h : Lst k w own B e v xs) (hx : Ext w w2) {x : Value} (hown : w4.ownsRow B e 1 v' (xs.length + 1) (xs ++ [x])) (hg : w2.grownBy w4 v.ownBlock) (hat : v'.ownBlock = v.ownBlock ∨ v'.ownBlock = some w2.heap.size) :
    Lst k w4 (newTag w own k) B e v' (xs ++ [x]) ∧ Keeps (· ≠ k) w own w4 (newTag w own k) := by
  have hs := hx.size
  refine ⟨⟨by rw [List.length_append]; exact hown, fun g hg' => ?_⟩, ⟨Nat.le_trans hs hg.size, fun g hl hne => ⟨?_, newTag_old hl⟩⟩⟩
  · rcases hat with e | e
    · rw [e] at hg'
      rw [newTag_old (h.row.lt g hg').2]; exact h.tag g hg'
    · rw [e] at hg'
      obtain rfl : w2.heap.size = g := by simpa using hg'
      exact newTag_new hs
  · rw [hg.block g (by omega) (fun e => hne (h.tag g e.symm))]
    exact hx.block g hl
/-- .. and the world behind is one that reaches back as far -/
theorem Lst.push_ext {w0 : World} (h : Lst k w own B e v xs) (h0 : Ext w0 w) (hB : w0.heap.size ≤ B) (hx : Ext w w2) (hg : w2.grownBy w4 v.ownBlock) : Ext w0 w4 :=
  Below.grown (h0.trans hx) hg (h0.trans hx).size (fun g e => Nat.le_trans hB (h.row.lt g e).1)
/-- its elements -/
theorem Lst.slc (h : Lst k w own B e v xs) (hn : 0 < xs.length) : ∃ g cap, v = .slice (some ⟨g, 0, none⟩) xs.length cap ∧ B ≤ g ∧ g < w.heap.size ∧ own g = k := by
  obtain ⟨g, cap, hv, h1, h2⟩ := own_slc h.row hn
  exact ⟨g, cap, hv, h1, h2, h.tag g (by rw [hv]; rfl)⟩
theorem Lst.cell {g n cap : Nat} (h : Lst k w own B e (.slice (some ⟨g, 0, none⟩) n cap) xs) {i : Nat} {x : Value} (hx : xs[i]? = some x) : w.cell? ⟨g, i, none⟩ = some x := by
  have hadd : (⟨g, 0, none⟩ : Addr).add i = ⟨g, i, none⟩ := by unfold Addr.add; split <;> simp_all
  rw [← hadd]
  exact h.row.cells rfl i x hx

/-- a block that is filled by its index -/
structure Blk (k : Nat) (w : World) (own : Nat → Nat) (B b : Nat) (t : TypeId) (n : Nat) (f : Nat → Value) : Prop where
  row : w.rowIs b t n f
  tag : own b = k
  low : B ≤ b
variable {b n : Nat} {t : TypeId} {f : Nat → Value}
theorem Blk.keep (h : Blk k w own B b t n f) (hk : Keeps S w own w' own') (hS : S k) : Blk k w' own' B b t n f := by
  obtain ⟨h1, h2⟩ := hk.same b h.row.lt (by rw [h.tag]; exact hS)
  exact ⟨h.row.of_block h1, h2.trans h.tag, h.low⟩
theorem Blk.ext (h : Blk k w own B b t n f) (hx : Ext w w') : Blk k w' own B b t n f := h.keep (S := fun _ => True) (.ext hx) trivial
theorem Blk.congr (h : Blk k w own B b t n f) {f' : Nat → Value} (e : ∀ i, i < n → f i = f' i) : Blk k w own B b t n f' := ⟨h.row.congr e, h.tag, h.low⟩
theorem Blk.set (h : Blk k w own B b t n f) (i : Nat) (v : Value) : Blk k (w.setCell ⟨b, i, none⟩ v) own B b t n (fun j => if j = i then v else f j) ∧ Keeps (· ≠ k) w own (w.setCell ⟨b, i, none⟩ v) own :=
  ⟨⟨h.row.set i v, h.tag, h.low⟩, .setCell h.tag (by simp)⟩
theorem Blk.set_ext {w0 : World} (h : Blk k w own B b t n f) (h0 : Ext w0 w) (hB : w0.heap.size ≤ B) (i : Nat) (v : Value) : Ext w0 (w.setCell ⟨b, i, none⟩ v) := Below.setCell h0 (Nat.le_trans hB h.low) _
/-- a new one -/
theorem Blk.made (w : World) (own : Nat → Nat) (k : Nat) {B : Nat} (hB : B ≤ w.heap.size) (c : Array Value) (t : TypeId) {n : Nat} (hn : c.size = n) (f : Nat → Value) (hc : ∀ i, i < n → c[i]? = some (f i)) :
    Blk k (w.alloc (.cells c t)) (newTag w own k) B w.heap.size t n f := by
  subst hn
  exact ⟨World.rowIs_alloc w c t f hc, newTag_new (Nat.le_refl _), hB⟩
/-- as a list that is full -/
theorem Blk.lst (h : Blk k w own B b t n f) (hn : n ≤ maxLen) {xs : List Value} (hl : xs.length = n) (hf : ∀ i x, xs[i]? = some x → f i = x) : Lst k w own B t (.slice (some ⟨b, 0, none⟩) n n) xs := by
  obtain ⟨c, h1, h2, h3⟩ := h.row
  refine ⟨⟨by omega, .inr ⟨b, n, c, by rw [hl], h.low, h1, by omega, hn, by omega, ?_⟩⟩, fun g hg => ?_⟩
  · refine List.ext_getElem? fun i => ?_
    rw [List.getElem?_take]
    by_cases hi : i < n
    · rw [if_pos (by omega), Array.getElem?_toList, h3 i hi, List.getElem?_eq_getElem (by omega), hf i _ (List.getElem?_eq_getElem (by omega))]
    · rw [if_neg (by omega), List.getElem?_eq_none (by omega)]
  · obtain rfl : b = g := by simpa [Value.ownBlock] using hg
    exact h.tag

/-- rows, each in a block of its own, all of one tag -/
structure Rws (k : Nat) (w : World) (own : Nat → Nat) (B : Nat) (hs : List Value) (rows : List (List Int)) : Prop where
  len : hs.length = rows.length
  row : ∀ (i : Nat) (h : Value) (l : List Int), hs[i]? = some h → rows[i]? = some l → Lst k w own B 3 h (intsV l)
variable {hs : List Value} {rows : List (List Int)}
theorem Rws.nil (k : Nat) (w : World) (own : Nat → Nat) (B : Nat) : Rws k w own B [] [] := ⟨rfl, fun i h l hi => (by simp at hi)⟩
theorem Rws.keep (h : Rws k w own B hs rows) (hk : Keeps S w own w' own') (hS : S k) : Rws k w' own' B hs rows := ⟨h.len, fun i hv l h1 h2 => (h.row i hv l h1 h2).keep hk hS⟩
theorem Rws.ext (h : Rws k w own B hs rows) (hx : Ext w w') : Rws k w' own B hs rows := h.keep (S := fun _ => True) (.ext hx) trivial
/-- a row joins: its tag j becomes k -/
def joinTag (own : Nat → Nat) (j k g : Nat) : Nat := if own g = j then k else own g
theorem Keeps.join (w : World) (own : Nat → Nat) (j k : Nat) : Keeps (· ≠ j) w own w (joinTag own j k) := ⟨Nat.le_refl _, fun _ _ hne => ⟨rfl, if_neg hne⟩⟩
theorem Rws.join (h : Rws k w own B hs rows) (hjk : k ≠ j) {l : List Int} (hr : Lst j w own B 3 v (intsV l)) : Rws k w (joinTag own j k) B (hs ++ [v]) (rows ++ [l]) := by
  refine ⟨by simp [h.len], fun i hv l' h1 h2 => ?_⟩
  rw [List.getElem?_append] at h1 h2
  have hl := h.len
  split at h1
  · rename_i hi
    rw [if_pos (by omega)] at h2
    exact (h.row i hv l' h1 h2).keep (.join w own j k) hjk
  · rename_i hi
    rw [if_neg (by omega)] at h2
    have h3 := (List.getElem?_eq_some_iff.1 h1).1
    simp at h3
    obtain rfl : i = hs.length := by omega
    rw [Nat.sub_self] at h1
    rw [hl, Nat.sub_self] at h2
    simp at h1 h2
    subst h1; subst h2
    exact ⟨hr.row, fun g hg => by unfold joinTag; rw [if_pos (hr.tag g hg)]⟩
/-- what can be read -/
theorem Rws.read {k' : Nat} (h : Rws k w own B hs rows) (ht : Lst k' w own B 23 v hs) (hn : rows.length ≤ 140737488355328) (hl : ∀ l ∈ rows, l.length ≤ 140737488355328) : RowsV w v rows := by
  have hhl := h.len
  obtain ⟨a, cap, rfl, _, hc, h2⟩ := own_read ht.row
  rw [hhl] at hc h2 ⊢
  refine ⟨hn, a, cap, rfl, hc, fun h0 => ?_⟩
  obtain ⟨g, rfl, _, h3⟩ := h2 h0
  refine ⟨g, 0, rfl, fun i l hi => ?_⟩
  have hlt := (List.getElem?_eq_some_iff.1 hi).1
  have hi2 : hs[i]? = some (hs[i]'(by omega)) := List.getElem?_eq_getElem _
  have h4 := h3 i hlt
  rw [hi2] at h4
  rw [Nat.mul_one, Nat.zero_add]
  have h5 := (h.row i _ l hi2 hi).row
  rw [show (intsV l).length = l.length by simp [intsV]] at h5
  exact ⟨_, h4, own_ints h5 (hl l (List.mem_of_getElem? hi))⟩
theorem Lst.ints {l : List Int} (h : Lst k w own B 3 v (intsV l)) (hl : l.length ≤ 140737488355328) : Ints w v l := by
  have h5 := h.row
  rw [show (intsV l).length = l.length by simp [intsV]] at h5
  exact own_ints h5 hl
end
end Go.Proofs.YtihginaanlcilaaDoor
