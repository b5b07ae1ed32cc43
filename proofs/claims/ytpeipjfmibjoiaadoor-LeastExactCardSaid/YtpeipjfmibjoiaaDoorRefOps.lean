/- What the refiner's stores and appends do to its state. -/
import Derived.Test.YtpeipjfmibjoiaaDoorRefS
namespace Go.Proofs.YtpeipjfmibjoiaaDoor
open Go.RowKit

/-- a list of numbers in a block of the call's own, which bears a tag -/
def Loc (w : World) (B : Nat) (own : Nat → Nat) (t : Nat) (v : Value) (l : List Nat) : Prop := w.ownsRow B 3 1 v l.length (natV l) ∧ ∀ g, v.ownBlock = some g → own g = t

section
variable {w w' W : World} {rb B : Nat} {own own' : Nat → Nat} {f : Nat → Value} {N : Nat} {P : Nat → Nat} {Bs : List (List Nat)} {hs : List Value} {L : List (Nat × Nat)} {mb n : Nat} {pre : Nat → Nat → List Nat} {t : Nat} {v : Value} {l : List Nat}

theorem Loc.nil (w : World) (B : Nat) (own : Nat → Nat) (t : Nat) : Loc w B own t (.slice none 0 0) [] := ⟨World.ownsRow_nil _ _ _ _, fun g h => by cases h⟩
theorem Loc.kept (h : Loc w B own t v l) (hk : ∀ g, g < w.heap.size → own g = t → w'.heap[g]? = w.heap[g]?) : Loc w' B own t v l :=
  ⟨own_block h.1 fun g hg hl => hk g hl (h.2 g hg), h.2⟩
theorem Loc.ext (h : Loc w B own t v l) (hx : Ext w w') : Loc w' B own t v l := h.kept fun g hg _ => hx.block g hg
theorem Loc.retag (h : Loc w B own t v l) (ho : ∀ g, g < w.heap.size → own' g = own g) : Loc w B own' t v l := ⟨h.1, fun g hg => (ho g (h.1.lt g hg).2).trans (h.2 g hg)⟩

/-- blocks whose tag is none of the refiner's own may change -/
theorem RefS.keepT (h : RefS w rb B own f N P Bs hs L mb n pre) (hk : ∀ g, g < w.heap.size → (own g ≤ 5 ∨ 10 ≤ own g) → w'.heap[g]? = w.heap[g]?) : RefS w' rb B own f N P Bs hs L mb n pre where
  pos := h.pos
  row := h.row.of_block (hk rb h.row.lt (by have := h.rbT; omega))
  rbB := h.rbB
  rbT := h.rbT
  from_ := h.from_.kept h.pos fun g hg hz => ⟨hk g hg (by omega), hz⟩
  block := own_block h.block fun g hg hl => hk g hl (by have := h.blockT g hg; omega)
  blockT := h.blockT
  tab := own_block h.tab fun g hg hl => hk g hl (by have := h.tabT g hg; omega)
  tabT := h.tabT
  rows := fun i hv l h1 h2 => ⟨own_block (h.rows i hv l h1 h2).1 fun g hg hl => hk g hl (by have := (h.rows i hv l h1 h2).2 g hg; omega), (h.rows i hv l h1 h2).2⟩
  wt := h.wt.kept (fun g hl hg => hk g hl (by have := h.wtT g hg; omega)) (hk mb h.wt.set.lt (by have := h.mbT; omega))
  f6 := h.f6
  wtT := h.wtT
  mbT := h.mbT
  mbB := h.mbB

/-- an append to a list of the call's own: w2 is w but for new blocks; what stands elsewhere stays -/
theorem Loc.append {w2 : World} (h : Loc w B own t v l) (hx : Ext w w2) {v' : Value} {x : Nat} (hown : W.ownsRow B 3 1 v' (l.length + 1) (natV l ++ [.int .i64 (x : Int)])) (hg : w2.grownBy W v.ownBlock)
    (hat : v'.ownBlock = v.ownBlock ∨ v'.ownBlock = some w2.heap.size) :
    ∃ own', Loc W B own' t v' (l ++ [x]) ∧ (∀ g, g < w.heap.size → own' g = own g) ∧ (∀ g, g < w.heap.size → own g ≠ t → W.heap[g]? = w.heap[g]?) := by
  have hs := hx.size
  refine ⟨fun g => if g < w.heap.size then own g else t, ⟨by rw [natV_snoc, List.length_append]; exact hown, fun g hg' => ?_⟩, fun g hg' => if_pos hg', fun g hg' hn => ?_⟩
  · show (if g < w.heap.size then own g else t) = t
    by_cases e : g < w.heap.size
    · rw [if_pos e]
      rcases hat with h1 | h1
      · exact h.2 g (by rw [← h1]; exact hg')
      · rw [h1] at hg'; simp at hg'; omega
    · rw [if_neg e]
  · rw [hg.block g (by omega) (fun e => hn (h.2 g e.symm))]
    exact hx.block g hg'

/-- a list of the call's own becomes row b -/
theorem RefS.setRow (h : RefS w rb B own f N P Bs hs L mb n pre) (hl : Loc w B own t v l) (ht : t = 7 ∨ t = 8) {b : Nat} (hb : b < Bs.length) {g2 c2 : Nat} (h4 : f 4 = .slice (some ⟨g2, 0, none⟩) Bs.length c2) :
    ∃ own', RefS (w.setCell ⟨g2, b, none⟩ v) rb B own' f N P (Bs.set b l) (hs.set b v) L mb n pre ∧ (∀ g, own g = 6 → own' g = 6) ∧ (∀ g, own g = 7 → t ≠ 7 → own' g = 7) ∧ (∀ g, own g = 8 → t ≠ 8 → own' g = 8) := by
  have hg2 : own g2 = 2 := h.tabT g2 (by rw [h4]; rfl)
  have htab := h.tab
  rw [h4] at htab
  have hhl : hs.length = Bs.length := by have := h.tab.1; omega
  let own' := fun g => if own g = b + 10 then 9 else if own g = t then b + 10 else own g
  have hkeep : ∀ g, own g ≠ b + 10 → own g ≠ t → own' g = own g := fun g h1 h2 => by show (if _ then _ else _) = _; rw [if_neg h1, if_neg h2]
  have hne : ∀ g, own g ≠ 2 → (w.setCell ⟨g2, b, none⟩ v).heap[g]? = w.heap[g]? := fun g hg => Below.heap_setCell _ _ _ _ (by simp only [ne_eq]; rintro rfl; exact hg hg2)
  refine ⟨own', ⟨h.pos, h.row.of_block (hne rb (by rw [h.rbT]; omega)), h.rbB, ?_, ?_, ?_, ?_, ?_, ?_, ?_, ?_, h.f6, ?_, ?_, h.mbB⟩, fun g hg => ?_, fun g hg ht' => ?_, fun g hg ht' => ?_⟩
  · rw [hkeep rb (by rw [h.rbT]; omega) (by rw [h.rbT]; omega)]; exact h.rbT
  · exact h.from_.kept h.pos fun g hg hz => ⟨hne g (by omega), (hkeep g (by omega) (by omega)).trans hz⟩
  · exact own_block h.block fun g hg _ => hne g (by rw [h.blockT g hg]; omega)
  · intro g hg; rw [hkeep g (by rw [h.blockT g hg]; omega) (by rw [h.blockT g hg]; omega)]; exact h.blockT g hg
  · have := (htab.stored b v).1
    rw [h4, List.length_set]
    exact this
  · intro g hg; rw [hkeep g (by rw [h.tabT g hg]; omega) (by rw [h.tabT g hg]; omega)]; exact h.tabT g hg
  · intro i hv l' h1 h2
    rw [List.getElem?_set] at h1 h2
    by_cases e : b = i
    · subst e
      rw [if_pos rfl, if_pos (by omega)] at h1
      rw [if_pos rfl, if_pos hb] at h2
      simp at h1 h2
      subst h1; subst h2
      refine ⟨own_block hl.1 fun g hg _ => hne g (by rw [hl.2 g hg]; omega), fun g hg => ?_⟩
      show (if own g = b + 10 then 9 else if own g = t then b + 10 else own g) = b + 10
      rw [hl.2 g hg, if_neg (by omega), if_pos rfl]
    · rw [if_neg e] at h1 h2
      have h3 := h.rows i hv l' h1 h2
      refine ⟨own_block h3.1 fun g hg _ => hne g (by rw [h3.2 g hg]; omega), fun g hg => ?_⟩
      rw [hkeep g (by rw [h3.2 g hg]; omega) (by rw [h3.2 g hg]; omega)]; exact h3.2 g hg
  · exact h.wt.kept (fun g _ hg => hne g (by rw [h.wtT g hg]; omega)) (hne mb (by rw [h.mbT]; omega))
  · intro g hg; rw [hkeep g (by rw [h.wtT g hg]; omega) (by rw [h.wtT g hg]; omega)]; exact h.wtT g hg
  · rw [hkeep mb (by rw [h.mbT]; omega) (by rw [h.mbT]; omega)]; exact h.mbT
  · rw [hkeep g (by omega) (by omega)]; exact hg
  · rw [hkeep g (by omega) (by omega)]; exact hg
  · rw [hkeep g (by omega) (by omega)]; exact hg

/-- a state's number is another one -/
theorem RefS.setBlock (h : RefS w rb B own f N P Bs hs L mb n pre) {s x : Nat} (hs' : s < N) {g1 c1 : Nat} (h3 : f 3 = .slice (some ⟨g1, 0, none⟩) N c1) :
    RefS (w.setCell ⟨g1, s, none⟩ (.int .i64 (x : Int))) rb B own f N (fun s' => if s' = s then x else P s') Bs hs L mb n pre := by
  have hg1 : own g1 = 1 := h.blockT g1 (by rw [h3]; rfl)
  have hbl := h.block
  rw [h3] at hbl
  have hne : ∀ g, own g ≠ 1 → (w.setCell ⟨g1, s, none⟩ (.int .i64 (x : Int))).heap[g]? = w.heap[g]? := fun g hg => Below.heap_setCell _ _ _ _ (by simp only [ne_eq]; rintro rfl; exact hg hg1)
  refine ⟨h.pos, h.row.of_block (hne rb (by rw [h.rbT]; omega)), h.rbB, h.rbT, ?_, ?_, h.blockT, ?_, h.tabT, ?_, ?_, h.f6, h.wtT, h.mbT, h.mbB⟩
  · exact h.from_.kept h.pos fun g hg hz => ⟨hne g (by omega), hz⟩
  · have := (hbl.stored s (.int .i64 (x : Int))).1
    rw [h3]
    have e : (natV ((List.range N).map P)).set s (.int .i64 (x : Int)) = natV ((List.range N).map fun s' => if s' = s then x else P s') := by
      refine List.ext_getElem? fun i => ?_
      rw [List.getElem?_set, natV, natV, List.map_map, List.map_map, List.getElem?_map, List.getElem?_map]
      by_cases hi : i < N
      · rw [List.getElem?_range hi]
        by_cases e : s = i
        · subst e; simp [hi]
        · rw [if_neg e]; simp [show ¬ i = s from fun e' => e e'.symm]
      · rw [List.getElem?_eq_none (by simp; omega)]
        split
        · simp; omega
        · rfl
    rw [← e]; exact this
  · exact own_block h.tab fun g hg _ => hne g (by rw [h.tabT g hg]; omega)
  · intro i hv l' h1 h2
    have h3 := h.rows i hv l' h1 h2
    exact ⟨own_block h3.1 fun g hg _ => hne g (by rw [h3.2 g hg]; omega), h3.2⟩
  · exact h.wt.kept (fun g _ hg => hne g (by rw [h.wtT g hg]; omega)) (hne mb (by rw [h.mbT]; omega))

/-- a list of the call's own becomes a new row -/
theorem RefS.addRow {w4 : World} (O : Obj) (h : RefS w rb B own f N P Bs hs L mb n pre) (hl : Loc w B own t v l) (ht : t = 7 ∨ t = 8) {gg cap : Nat}
    (hown : w4.ownsRow B 23 1 (.slice (some ⟨gg, 0, none⟩) (Bs.length + 1) cap) (Bs.length + 1) (hs ++ [v])) (hg : (w.alloc O).drew.grownBy w4 (f 4).ownBlock) (hat : (f 4).ownBlock = some gg ∨ gg = w.heap.size + 1) :
    ∃ own', RefS (w4.setCell ⟨rb, 4, none⟩ (.slice (some ⟨gg, 0, none⟩) (Bs.length + 1) cap)) rb B own' (fun i => if i = 4 then .slice (some ⟨gg, 0, none⟩) (Bs.length + 1) cap else f i) N P (Bs ++ [l]) (hs ++ [v]) L mb n pre ∧
      (∀ g, g < w.heap.size → own g = 6 → own' g = 6) ∧ (∀ g, g < w.heap.size → own g = t → own' g = Bs.length + 10) ∧ (∀ g, g < w.heap.size → 6 ≤ own g → own g ≤ 9 → (w4.setCell ⟨rb, 4, none⟩ (.slice (some ⟨gg, 0, none⟩) (Bs.length + 1) cap)).heap[g]? = w.heap[g]?) := by
  have hhl : hs.length = Bs.length := by have := h.tab.1; omega
  have hrl := h.row.lt
  let own' := fun g => if g < w.heap.size then (if own g = t then Bs.length + 10 else own g) else if g = gg then 2 else 0
  have hold : ∀ g, g < w.heap.size → own g ≠ t → own' g = own g := fun g h1 h2 => by show (if _ then (if _ then _ else _) else _) = _; rw [if_pos h1, if_neg h2]
  have hblk : ∀ g, g < w.heap.size → own g ≠ 2 → own g ≠ 5 → (w4.setCell ⟨rb, 4, none⟩ (.slice (some ⟨gg, 0, none⟩) (Bs.length + 1) cap)).heap[g]? = w.heap[g]? := fun g h1 h2 h3 => by
    have h4 : g ≠ rb := by rintro rfl; exact h3 h.rbT
    rw [show (w4.setCell ⟨rb, 4, none⟩ (.slice (some ⟨gg, 0, none⟩) (Bs.length + 1) cap)).heap[g]? = w4.heap[g]? from Below.heap_setCell _ _ _ _ (by simpa using h4),
      hg.block g (by simp; omega) (fun e => h2 (h.tabT g e.symm))]
    exact (Ext.drew (Ext.box w O)).block g h1
  have hggrb : gg ≠ rb := by
    rintro rfl
    rcases hat with h1 | h1
    · have := h.tabT _ h1; have := h.rbT; omega
    · omega
  have r4 : w4.rowIs rb 160 7 f := h.row.of_block (by
    rw [hg.block rb (by simp; omega) (fun e => by have := h.tabT rb e.symm; have := h.rbT; omega)]
    exact (Ext.drew (Ext.box w O)).block rb hrl)
  refine ⟨own', ⟨h.pos, r4.set 4 _, h.rbB, ?_, ?_, ?_, ?_, ?_, ?_, ?_, ?_, ?_, ?_, ?_, h.mbB⟩, fun g h1 h2 => (hold g h1 (by omega)).trans h2, fun g h1 h2 => ?_, fun g h1 h2 h3 => hblk g h1 (by omega) (by omega)⟩
  · rw [hold rb hrl (by rw [h.rbT]; omega)]; exact h.rbT
  · show FromS _ _ (f 2) N pre
    exact h.from_.kept h.pos fun g hg' hz => ⟨hblk g hg' (by omega) (by omega), (hold g hg' (by omega)).trans hz⟩
  · show World.ownsRow _ B _ 1 (f 3) N _
    exact own_block h.block fun g hg' hl' => hblk g hl' (by rw [h.blockT g hg']; omega) (by rw [h.blockT g hg']; omega)
  · intro g hg'
    have hg' : (f 3).ownBlock = some g := hg'
    rw [hold g (h.block.lt g hg').2 (by rw [h.blockT g hg']; omega)]; exact h.blockT g hg'
  · show World.ownsRow _ B _ 1 (.slice (some ⟨gg, 0, none⟩) (Bs.length + 1) cap) _ _
    rw [List.length_append]
    exact own_block hown fun g hg' _ => Below.heap_setCell _ _ _ _ (by simp only [Value.ownBlock, Option.some.injEq] at hg'; simp only [ne_eq]; omega)
  · intro g hg'
    have hg' : gg = g := by simpa [Value.ownBlock] using hg'
    subst hg'
    rcases hat with h1 | h1
    · rw [hold gg (h.tab.lt gg h1).2 (by rw [h.tabT gg h1]; omega)]; exact h.tabT gg h1
    · show (if gg < w.heap.size then _ else if gg = gg then 2 else 0) = 2
      rw [if_neg (by omega), if_pos rfl]
  · intro i hv l' h1 h2
    rw [List.getElem?_append] at h1 h2
    split at h1
    · rename_i hi
      rw [if_pos (by omega)] at h2
      have h3 := h.rows i hv l' h1 h2
      refine ⟨own_block h3.1 fun g hg' hl' => hblk g hl' (by rw [h3.2 g hg']; omega) (by rw [h3.2 g hg']; omega), fun g hg' => ?_⟩
      rw [hold g (h3.1.lt g hg').2 (by rw [h3.2 g hg']; omega)]; exact h3.2 g hg'
    · rename_i hi
      rw [if_neg (by omega)] at h2
      have h3 := (List.getElem?_eq_some_iff.1 h1).1
      simp at h3
      have e : i = Bs.length := by omega
      subst e
      rw [show Bs.length - hs.length = 0 by omega] at h1
      rw [Nat.sub_self] at h2
      simp at h1 h2
      subst h1; subst h2
      refine ⟨own_block hl.1 fun g hg' hl' => hblk g hl' (by rw [hl.2 g hg']; omega) (by rw [hl.2 g hg']; omega), fun g hg' => ?_⟩
      show (if g < w.heap.size then (if own g = t then Bs.length + 10 else own g) else _) = Bs.length + 10
      rw [if_pos (hl.1.lt g hg').2, if_pos (hl.2 g hg')]
  · show Wt _ B (f 5) L mb n
    exact h.wt.kept (fun g hl' hg' => hblk g hl' (by rw [h.wtT g hg']; omega) (by rw [h.wtT g hg']; omega)) (hblk mb h.wt.set.lt (by rw [h.mbT]; omega) (by rw [h.mbT]; omega))
  · exact h.f6
  · intro g hg'
    have hg' : (f 5).ownBlock = some g := hg'
    rw [hold g (h.wt.row.lt g hg').2 (by rw [h.wtT g hg']; omega)]; exact h.wtT g hg'
  · rw [hold mb h.wt.set.lt (by rw [h.mbT]; omega)]; exact h.mbT
  · show (if g < w.heap.size then (if own g = t then Bs.length + 10 else own g) else _) = Bs.length + 10
    rw [if_pos h1, if_pos h2]
end
end Go.Proofs.YtpeipjfmibjoiaaDoor
