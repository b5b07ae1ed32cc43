/- What Least makes: the rows (headers tag 6, row i tag 10 + i), the labels (tag 7), in a struct of its own (tag 5). -/
import Derived.Test.YtpeipjfmibjoiaaDoorFound
import Derived.Test.YtpeipjfmibjoiaaDoorOwn
namespace Go.Proofs.YtpeipjfmibjoiaaDoor
open Go.RowKit

structure OutS (w : World) (B : Nat) (own : Nat → Nat) (bO : Nat) (nv lv : Value) (rows : List (List Nat)) (labs : List Int) (hs : List Value) : Prop where
  c0 : w.cell? ⟨bO, 0, none⟩ = some nv
  c1 : w.cell? ⟨bO, 1, none⟩ = some lv
  f0 : w.frozen? ⟨bO, 0, none⟩ = false
  f1 : w.frozen? ⟨bO, 1, none⟩ = false
  oT : own bO = 5
  oB : B ≤ bO
  top : w.ownsRow B 23 1 nv rows.length hs
  topT : ∀ g, nv.ownBlock = some g → own g = 6
  row : ∀ (i : Nat) (h : Value) (l : List Nat), hs[i]? = some h → rows[i]? = some l → w.ownsRow B 3 1 h l.length (natV l) ∧ ∀ g, h.ownBlock = some g → own g = i + 10
  lab : w.ownsRow B 3 1 lv labs.length (intsV labs)
  labT : ∀ g, lv.ownBlock = some g → own g = 7

section
variable {w w' w4 : World} {B : Nat} {own own' : Nat → Nat} {bO : Nat} {nv lv : Value} {rows : List (List Nat)} {labs : List Int} {hs : List Value}

theorem OutS.hlen (h : OutS w B own bO nv lv rows labs hs) : hs.length = rows.length := by have := h.top.1; omega
theorem OutS.bl (h : OutS w B own bO nv lv rows labs hs) : bO < w.heap.size := World.block_lt_of_cell? w ⟨bO, 0, none⟩ h.c0

theorem OutS.keepT (h : OutS w B own bO nv lv rows labs hs) (hk : ∀ g, g < w.heap.size → 5 ≤ own g → own g ≠ 8 → w'.heap[g]? = w.heap[g]? ∧ own' g = own g) : OutS w' B own' bO nv lv rows labs hs := by
  have kO := hk bO h.bl (by rw [h.oT]; omega) (by rw [h.oT]; omega)
  exact ⟨(World.cell?_of_block (a := ⟨bO, 0, none⟩) kO.1).trans h.c0, (World.cell?_of_block (a := ⟨bO, 1, none⟩) kO.1).trans h.c1, (World.frozen?_of_block (a := ⟨bO, 0, none⟩) kO.1).trans h.f0, (World.frozen?_of_block (a := ⟨bO, 1, none⟩) kO.1).trans h.f1, kO.2.trans h.oT, h.oB,
    own_block h.top fun g hg hl => (hk g hl (by rw [h.topT g hg]; omega) (by rw [h.topT g hg]; omega)).1, fun g hg => (hk g (h.top.lt g hg).2 (by rw [h.topT g hg]; omega) (by rw [h.topT g hg]; omega)).2.trans (h.topT g hg),
    fun i hv l h1 h2 => by
      have h3 := h.row i hv l h1 h2
      exact ⟨own_block h3.1 fun g hg hl => (hk g hl (by rw [h3.2 g hg]; omega) (by rw [h3.2 g hg]; omega)).1, fun g hg => (hk g (h3.1.lt g hg).2 (by rw [h3.2 g hg]; omega) (by rw [h3.2 g hg]; omega)).2.trans (h3.2 g hg)⟩,
    own_block h.lab fun g hg hl => (hk g hl (by rw [h.labT g hg]; omega) (by rw [h.labT g hg]; omega)).1, fun g hg => (hk g (h.lab.lt g hg).2 (by rw [h.labT g hg]; omega) (by rw [h.labT g hg]; omega)).2.trans (h.labT g hg)⟩

/-- a row is put behind -/
theorem OutS.addRow (h : OutS w B own bO nv lv rows labs hs) {O : Obj} {rv : Value} {l : List Nat} (hrow : w.ownsRow B 3 1 rv l.length (natV l)) (hrT : ∀ g, rv.ownBlock = some g → own g = 8) {gg cap : Nat}
    (hown : w4.ownsRow B 23 1 (.slice (some ⟨gg, 0, none⟩) (rows.length + 1) cap) (rows.length + 1) (hs ++ [rv])) (hg : (w.alloc O).grownBy w4 nv.ownBlock) (hat : nv.ownBlock = some gg ∨ gg = (w.alloc O).heap.size) :
    ∃ own', OutS (w4.setCell ⟨bO, 0, none⟩ (.slice (some ⟨gg, 0, none⟩) (rows.length + 1) cap)) B own' bO (.slice (some ⟨gg, 0, none⟩) (rows.length + 1) cap) lv (rows ++ [l]) labs (hs ++ [rv]) ∧
      (∀ g, g < w.heap.size → own g ≠ 8 → own' g = own g) ∧ (∀ g, g < w.heap.size → own g ≠ 5 → own g ≠ 6 → (w4.setCell ⟨bO, 0, none⟩ (.slice (some ⟨gg, 0, none⟩) (rows.length + 1) cap)).heap[g]? = w.heap[g]?) := by
  have hbl := h.bl
  have hhl := h.hlen
  have k4 : ∀ g, g < w.heap.size → own g ≠ 6 → w4.heap[g]? = w.heap[g]? := fun g hl ho => by
    rw [hg.block g (by simp; omega) (fun e => ho (h.topT g e.symm))]
    exact (Ext.box w O).block g hl
  have kf : ∀ g, g < w.heap.size → own g ≠ 5 → own g ≠ 6 → (w4.setCell ⟨bO, 0, none⟩ (.slice (some ⟨gg, 0, none⟩) (rows.length + 1) cap)).heap[g]? = w.heap[g]? := fun g hl h1 h2 =>
    (Below.heap_setCell _ _ _ _ (by simp only [ne_eq]; rintro rfl; exact h1 h.oT)).trans (k4 g hl h2)
  have hgO : gg ≠ bO := by
    rintro rfl
    rcases hat with e | e
    · have := h.topT gg e; have := h.oT; omega
    · simp at e; omega
  have kO := k4 bO hbl (by rw [h.oT]; omega)
  let own' := fun g => if g < w.heap.size then (if own g = 8 then rows.length + 10 else own g) else 6
  have ho : ∀ g, g < w.heap.size → own g ≠ 8 → own' g = own g := fun g h1 h2 => by show (if _ then (if _ then _ else _) else _) = _; rw [if_pos h1, if_neg h2]
  have hot : own' gg = 6 := by
    show (if gg < w.heap.size then (if own gg = 8 then rows.length + 10 else own gg) else 6) = 6
    by_cases e : gg < w.heap.size
    · rw [if_pos e]
      rcases hat with h1 | h1
      · rw [if_neg (by rw [h.topT gg h1]; omega)]; exact h.topT gg h1
      · simp at h1; omega
    · rw [if_neg e]
  refine ⟨own', ⟨World.cell?_setCell_same _ _ _ ((World.cell?_of_block (a := ⟨bO, 0, none⟩) kO).trans h.c0), ?_, ?_, ?_, (ho bO hbl (by rw [h.oT]; omega)).trans h.oT, h.oB, ?_, ?_, ?_, ?_, ?_⟩, ho, kf⟩
  · rw [World.cell?_setCell_other _ _ _ _ (by simp)]
    exact (World.cell?_of_block (a := ⟨bO, 1, none⟩) kO).trans h.c1
  · rw [World.frozen?_setCell]; exact (World.frozen?_of_block (a := ⟨bO, 0, none⟩) kO).trans h.f0
  · rw [World.frozen?_setCell]; exact (World.frozen?_of_block (a := ⟨bO, 1, none⟩) kO).trans h.f1
  · rw [List.length_append]
    exact own_block hown fun g hg' _ => Below.heap_setCell _ _ _ _ (by
      have hg2 : gg = g := by simpa [Value.ownBlock] using hg'
      subst hg2; exact hgO)
  · intro g hg'
    have hg2 : gg = g := by simpa [Value.ownBlock] using hg'
    subst hg2; exact hot
  · intro i hv l2 h1 h2
    rw [List.getElem?_append] at h1 h2
    split at h1
    · rename_i hi
      rw [if_pos (by omega)] at h2
      have h3 := h.row i hv l2 h1 h2
      exact ⟨own_block h3.1 fun g hg' hl => kf g hl (by have := h3.2 g hg'; omega) (by have := h3.2 g hg'; omega), fun g hg' => (ho g (h3.1.lt g hg').2 (by have := h3.2 g hg'; omega)).trans (h3.2 g hg')⟩
    · rename_i hi
      rw [if_neg (by omega)] at h2
      have h3 := (List.getElem?_eq_some_iff.1 h1).1
      simp at h3
      have e : i = rows.length := by omega
      subst e
      rw [show rows.length - hs.length = 0 by omega] at h1
      rw [Nat.sub_self] at h2
      simp at h1 h2
      subst h1; subst h2
      refine ⟨own_block hrow fun g hg' hl => kf g hl (by rw [hrT g hg']; omega) (by rw [hrT g hg']; omega), fun g hg' => ?_⟩
      show (if g < w.heap.size then (if own g = 8 then rows.length + 10 else own g) else 6) = rows.length + 10
      rw [if_pos (hrow.lt g hg').2, if_pos (hrT g hg')]
  · exact own_block h.lab fun g hg' hl => kf g hl (by rw [h.labT g hg']; omega) (by rw [h.labT g hg']; omega)
  · intro g hg'
    exact (ho g (h.lab.lt g hg').2 (by rw [h.labT g hg']; omega)).trans (h.labT g hg')

/-- a label is put behind -/
theorem OutS.addLab (h : OutS w B own bO nv lv rows labs hs) {w2 : World} (hx : Ext w w2) {x : Int} {gg cap : Nat}
    (hown : w4.ownsRow B 3 1 (.slice (some ⟨gg, 0, none⟩) (labs.length + 1) cap) (labs.length + 1) (intsV labs ++ [.int .i64 x])) (hg : w2.grownBy w4 lv.ownBlock) (hat : lv.ownBlock = some gg ∨ w.heap.size ≤ gg) :
    ∃ own', OutS (w4.setCell ⟨bO, 1, none⟩ (.slice (some ⟨gg, 0, none⟩) (labs.length + 1) cap)) B own' bO nv (.slice (some ⟨gg, 0, none⟩) (labs.length + 1) cap) rows (labs ++ [x]) hs ∧
      (∀ g, g < w.heap.size → own' g = own g) ∧ (∀ g, g < w.heap.size → own g ≠ 5 → own g ≠ 7 → (w4.setCell ⟨bO, 1, none⟩ (.slice (some ⟨gg, 0, none⟩) (labs.length + 1) cap)).heap[g]? = w.heap[g]?) := by
  have hbl := h.bl
  have hs2 := hx.size
  have k4 : ∀ g, g < w.heap.size → own g ≠ 7 → w4.heap[g]? = w.heap[g]? := fun g hl ho => by
    rw [hg.block g (by omega) (fun e => ho (h.labT g e.symm))]
    exact hx.block g hl
  have kf : ∀ g, g < w.heap.size → own g ≠ 5 → own g ≠ 7 → (w4.setCell ⟨bO, 1, none⟩ (.slice (some ⟨gg, 0, none⟩) (labs.length + 1) cap)).heap[g]? = w.heap[g]? := fun g hl h1 h2 =>
    (Below.heap_setCell _ _ _ _ (by simp only [ne_eq]; rintro rfl; exact h1 h.oT)).trans (k4 g hl h2)
  have hgO : gg ≠ bO := by
    rintro rfl
    rcases hat with e | e
    · have := h.labT gg e; have := h.oT; omega
    · omega
  have kO := k4 bO hbl (by rw [h.oT]; omega)
  let own' := fun g => if g < w.heap.size then own g else 7
  have ho : ∀ g, g < w.heap.size → own' g = own g := fun g h1 => if_pos h1
  refine ⟨own', ⟨?_, World.cell?_setCell_same _ _ _ ((World.cell?_of_block (a := ⟨bO, 1, none⟩) kO).trans h.c1), ?_, ?_, (ho bO hbl).trans h.oT, h.oB, ?_, fun g hg' => (ho g (h.top.lt g hg').2).trans (h.topT g hg'), ?_, ?_, ?_⟩, ho, kf⟩
  · rw [World.cell?_setCell_other _ _ _ _ (by simp)]
    exact (World.cell?_of_block (a := ⟨bO, 0, none⟩) kO).trans h.c0
  · rw [World.frozen?_setCell]; exact (World.frozen?_of_block (a := ⟨bO, 0, none⟩) kO).trans h.f0
  · rw [World.frozen?_setCell]; exact (World.frozen?_of_block (a := ⟨bO, 1, none⟩) kO).trans h.f1
  · exact own_block h.top fun g hg' hl => kf g hl (by rw [h.topT g hg']; omega) (by rw [h.topT g hg']; omega)
  · intro i hv l2 h1 h2
    have h3 := h.row i hv l2 h1 h2
    exact ⟨own_block h3.1 fun g hg' hl => kf g hl (by have := h3.2 g hg'; omega) (by have := h3.2 g hg'; omega), fun g hg' => (ho g (h3.1.lt g hg').2).trans (h3.2 g hg')⟩
  · have e : intsV (labs ++ [x]) = intsV labs ++ [.int .i64 x] := by simp [intsV]
    rw [e, List.length_append]
    exact own_block hown fun g hg' _ => Below.heap_setCell _ _ _ _ (by
      have hg2 : gg = g := by simpa [Value.ownBlock] using hg'
      subst hg2; exact hgO)
  · intro g hg'
    have hg2 : gg = g := by simpa [Value.ownBlock] using hg'
    subst hg2
    show (if gg < w.heap.size then own gg else 7) = 7
    by_cases e : gg < w.heap.size
    · rw [if_pos e]
      rcases hat with h1 | h1
      · exact h.labT gg h1
      · omega
    · rw [if_neg e]
end

theorem own_of_rowIs {w : World} {B g : Nat} {t : TypeId} {f : Nat → Value} {n : Nat} {l : List Nat} (h : w.rowIs g t n f) (hB : B ≤ g) (hn : n ≤ maxLen) (hl : l.length = n) (hf : ∀ i, i < n → f i = .int .i64 (l.getD i 0 : Nat)) : w.ownsRow B t 1 (.slice (some ⟨g, 0, none⟩) n n) l.length (natV l) := by
  obtain ⟨c, h1, h2, h3⟩ := h
  rw [hl]
  refine ⟨by rw [natV_length, hl, Nat.mul_one], .inr ⟨g, n, c, rfl, hB, h1, Nat.le_refl _, hn, by rw [h2, Nat.mul_one], ?_⟩⟩
  refine List.ext_getElem? fun i => ?_
  rw [Nat.mul_one]
  by_cases hi : i < n
  · rw [List.getElem?_take_of_lt hi, Array.getElem?_toList, h3 i hi, hf i hi, natV_get (by omega)]
  · rw [List.getElem?_eq_none (by simp; omega), List.getElem?_eq_none (by rw [natV_length]; omega)]

/-- Least's whole memory between two rounds; w5: where the loop begins -/
structure LeaS (w w5 : World) (own5 : Nat → Nat) (wr : World) (B : Nat) (own : Nat → Nat) (bM bC bS gM gc cc : Nat) (sv : Value) (N : Nat) (P : Nat → Nat) (reps : List Nat) (F : Int → Option Nat) (bO : Nat) (nv lv : Value) (rows : List (List Nat)) (labs : List Int) (hs : List Value) : Prop where
  fnd : FndS wr B own bM bC bS gM gc cc sv N P reps F
  out : OutS wr B own bO nv lv rows labs hs
  bl : Bl (fun g => B ≤ g) w wr
  size5 : w5.heap.size ≤ wr.heap.size
  kept : ∀ g, g < w5.heap.size → own5 g = 0 → wr.heap[g]? = w5.heap[g]? ∧ own g = 0

section
variable {w w5 wr w' w4 : World} {own5 : Nat → Nat} {B : Nat} {own : Nat → Nat} {bM bC bS gM gc cc : Nat} {sv : Value} {N : Nat} {P : Nat → Nat} {reps : List Nat} {F : Int → Option Nat} {bO : Nat} {nv lv : Value} {rows : List (List Nat)} {labs : List Int} {hs : List Value}

/-- the closure has been called -/
theorem LeaS.found (h : LeaS w w5 own5 wr B own bM bC bS gM gc cc sv N P reps F bO nv lv rows labs hs) {s : Nat} {e : Ending} (hf : FoundR wr B own bM bC bS gM gc cc N P reps s e w') :
    e = .returned (.int .i64 (LM.idx P reps s : Nat)) ∧ ∃ own' sv' F', LeaS w w5 own5 w' B own' bM bC bS gM gc cc sv' N P (LM.addRep P reps s) F' bO nv lv rows labs hs ∧ (∀ g, g < wr.heap.size → own' g = own g) ∧ (∀ g, g < wr.heap.size → own g = 8 → w'.heap[g]? = wr.heap[g]?) := by
  obtain ⟨rfl, own', sv', F', h1, h2, h3, h4⟩ := hf
  refine ⟨rfl, own', sv', F', ⟨h1, h.out.keepT fun g hl h5 h8 => ⟨h3 g hl (by omega) (by omega) (by omega), h2 g hl⟩, h.bl.trans h4, Nat.le_trans h.size5 h4.size, fun g hg h0 => ?_⟩, h2, fun g hl h8 => h3 g hl (by omega) (by omega) (by omega)⟩
  have h6 := h.kept g hg h0
  have h7 : g < wr.heap.size := Nat.lt_of_lt_of_le hg h.size5
  exact ⟨(h3 g h7 (by omega) (by omega) (by omega)).trans h6.1, (h2 g h7).trans h6.2⟩

/-- new blocks alone -/
theorem LeaS.ext (h : LeaS w w5 own5 wr B own bM bC bS gM gc cc sv N P reps F bO nv lv rows labs hs) (hN : 0 < N) (hx : Ext wr w') {own' : Nat → Nat} (ho : ∀ g, g < wr.heap.size → own' g = own g) : LeaS w w5 own5 w' B own' bM bC bS gM gc cc sv N P reps F bO nv lv rows labs hs :=
  ⟨h.fnd.keepT hN fun g hl _ _ => ⟨hx.block g hl, ho g hl⟩, h.out.keepT fun g hl _ _ => ⟨hx.block g hl, ho g hl⟩, h.bl.trans (.of_ext hx), Nat.le_trans h.size5 hx.size, fun g hg h0 => by
    have h6 := h.kept g hg h0
    have h7 : g < wr.heap.size := Nat.lt_of_lt_of_le hg h.size5
    exact ⟨(hx.block g h7).trans h6.1, (ho g h7).trans h6.2⟩⟩

/-- a cell of the row in the making is set -/
theorem LeaS.setRow (h : LeaS w w5 own5 wr B own bM bC bS gM gc cc sv N P reps F bO nv lv rows labs hs) (hN : 0 < N) {gR c : Nat} (hR : own gR = 8) (hB : B ≤ gR) (v : Value) : LeaS w w5 own5 (wr.setCell ⟨gR, c, none⟩ v) B own bM bC bS gM gc cc sv N P reps F bO nv lv rows labs hs := by
  have hk : ∀ g, own g ≠ 8 → (wr.setCell ⟨gR, c, none⟩ v).heap[g]? = wr.heap[g]? := fun g hg => Below.heap_setCell _ _ _ _ (by simp only [ne_eq]; rintro rfl; exact hg hR)
  exact ⟨h.fnd.keepT hN fun g _ _ _ => ⟨hk g (by omega), rfl⟩, h.out.keepT fun g _ _ h8 => ⟨hk g h8, rfl⟩, h.bl.setCell (.inl hB) _, by rw [World.size_setCell]; exact h.size5, fun g hg h0 => ⟨(hk g (by have := (h.kept g hg h0).2; omega)).trans (h.kept g hg h0).1, (h.kept g hg h0).2⟩⟩

theorem LeaS.addRow (h : LeaS w w5 own5 wr B own bM bC bS gM gc cc sv N P reps F bO nv lv rows labs hs) (hN : 0 < N) {O : Obj} {rv : Value} {l : List Nat} (hrow : wr.ownsRow B 3 1 rv l.length (natV l)) (hrT : ∀ g, rv.ownBlock = some g → own g = 8) {gg cap : Nat}
    (hown : w4.ownsRow B 23 1 (.slice (some ⟨gg, 0, none⟩) (rows.length + 1) cap) (rows.length + 1) (hs ++ [rv])) (hg : (wr.alloc O).grownBy w4 nv.ownBlock) (hat : nv.ownBlock = some gg ∨ gg = (wr.alloc O).heap.size) :
    ∃ own', LeaS w w5 own5 (w4.setCell ⟨bO, 0, none⟩ (.slice (some ⟨gg, 0, none⟩) (rows.length + 1) cap)) B own' bM bC bS gM gc cc sv N P reps F bO (.slice (some ⟨gg, 0, none⟩) (rows.length + 1) cap) lv (rows ++ [l]) labs (hs ++ [rv]) := by
  obtain ⟨own', h1, h2, h3⟩ := h.out.addRow hrow hrT hown hg hat
  refine ⟨own', h.fnd.keepT hN fun g hl _ _ => ⟨h3 g hl (by omega) (by omega), h2 g hl (by omega)⟩, h1, ((h.bl.trans (.of_ext (Ext.box wr O))).grown hg (fun g e => .inl (h.out.top.lt g e).1)).setCell (.inl h.out.oB) _, ?_, fun g hg' h0 => ?_⟩
  · rw [World.size_setCell]
    have := hg.size
    have := h.size5
    simp at *; omega
  · have h6 := h.kept g hg' h0
    have h7 : g < wr.heap.size := Nat.lt_of_lt_of_le hg' h.size5
    exact ⟨(h3 g h7 (by omega) (by omega)).trans h6.1, (h2 g h7 (by omega)).trans h6.2⟩

theorem LeaS.addLab (h : LeaS w w5 own5 wr B own bM bC bS gM gc cc sv N P reps F bO nv lv rows labs hs) (hN : 0 < N) {O : Obj} {x : Int} {gg cap : Nat}
    (hown : w4.ownsRow B 3 1 (.slice (some ⟨gg, 0, none⟩) (labs.length + 1) cap) (labs.length + 1) (intsV labs ++ [.int .i64 x])) (hg : (wr.alloc O).drew.grownBy w4 lv.ownBlock) (hat : lv.ownBlock = some gg ∨ gg = wr.heap.size + 1) :
    ∃ own', LeaS w w5 own5 (w4.setCell ⟨bO, 1, none⟩ (.slice (some ⟨gg, 0, none⟩) (labs.length + 1) cap)) B own' bM bC bS gM gc cc sv N P reps F bO nv (.slice (some ⟨gg, 0, none⟩) (labs.length + 1) cap) rows (labs ++ [x]) hs := by
  obtain ⟨own', h1, h2, h3⟩ := h.out.addLab ((Ext.box wr O).drew) hown hg (hat.elim .inl fun e => .inr (by have e' : gg = wr.heap.size + 1 := e; show wr.heap.size ≤ gg; omega))
  refine ⟨own', h.fnd.keepT hN fun g hl _ _ => ⟨h3 g hl (by omega) (by omega), h2 g hl⟩, h1, ((h.bl.trans (.of_ext (Ext.box wr O).drew)).grown hg (fun g e => .inl (h.out.lab.lt g e).1)).setCell (.inl h.out.oB) _, ?_, fun g hg' h0 => ?_⟩
  · rw [World.size_setCell]
    have := hg.size
    have := h.size5
    simp at *; omega
  · have h6 := h.kept g hg' h0
    have h7 : g < wr.heap.size := Nat.lt_of_lt_of_le hg' h.size5
    exact ⟨(h3 g h7 (by omega) (by omega)).trans h6.1, (h2 g h7).trans h6.2⟩
end

/-- the automaton that is told, as data -/
def dnOf (r : List (List Nat) × List Int) : Dn := ⟨r.1.map fun l => l.map fun (n : Nat) => (n : Int), r.2⟩

theorem natV_intsV (l : List Nat) : natV l = intsV (l.map fun (n : Nat) => (n : Int)) := by simp [natV, intsV]

theorem OutS.dense {w : World} {B : Nat} {own : Nat → Nat} {bO : Nat} {nv lv : Value} {rows : List (List Nat)} {labs : List Int} {hs : List Value} (h : OutS w B own bO nv lv rows labs hs) (h1 : rows.length ≤ 1000) (h2 : labs.length ≤ 1000) (h3 : ∀ l, l ∈ rows → l.length ≤ 1000) :
    DenseV w (.agg #[nv, lv]) (dnOf (rows, labs)) := by
  refine ⟨nv, lv, rfl, ?_, own_ints h.lab (by omega)⟩
  obtain ⟨a, cap, rfl, hn, hc, h4⟩ := own_read h.top
  refine ⟨by simp [dnOf]; omega, a, cap, by simp [dnOf], by simpa [dnOf] using hc, fun h0 => ?_⟩
  have h0' : 0 < rows.length := by simpa [dnOf] using h0
  obtain ⟨g, rfl, _, h5⟩ := h4 h0'
  refine ⟨g, 0, rfl, fun i x hx => ?_⟩
  simp only [dnOf, List.getElem?_map, Option.map_eq_some_iff] at hx
  obtain ⟨l, hl, rfl⟩ := hx
  have hi := (List.getElem?_eq_some_iff.1 hl).1
  obtain ⟨hv, hhv⟩ : ∃ hv, hs[i]? = some hv := ⟨_, List.getElem?_eq_getElem (by rw [h.hlen]; exact hi)⟩
  rw [Nat.mul_one, Nat.zero_add]
  have h6 := (h.row i hv l hhv hl).1
  rw [natV_intsV] at h6
  have h7 := own_ints (l := l.map fun (n : Nat) => (n : Int)) (by simpa using h6) (by have := h3 l (List.mem_of_getElem? hl); omega)
  exact ⟨hv, (h5 i hi).trans hhv, h7⟩

/-- an automaton in memory that nothing outside Z can change -/
def DenseIn (Z : Nat → Prop) (w : World) (v : Value) (d : Dn) : Prop := ∀ w' : World, (∀ g, g < w.heap.size → Z g → w'.heap[g]? = w.heap[g]?) → DenseV w' v d
theorem DenseIn.dense {Z : Nat → Prop} {w : World} {v : Value} {d : Dn} (h : DenseIn Z w v d) : DenseV w v d := h w fun _ _ _ => rfl
theorem DenseIn.mono {Z Z' : Nat → Prop} {w : World} {v : Value} {d : Dn} (h : DenseIn Z w v d) (hZ : ∀ g, g < w.heap.size → Z g → Z' g) : DenseIn Z' w v d := fun w' hk => h w' fun g h1 h2 => hk g h1 (hZ g h1 h2)
theorem DenseIn.kept {Z : Nat → Prop} {w w2 : World} {v : Value} {d : Dn} (h : DenseIn Z w v d) (hs : w.heap.size ≤ w2.heap.size) (hk : ∀ g, g < w.heap.size → Z g → w2.heap[g]? = w.heap[g]?) : DenseIn Z w2 v d :=
  fun w' hk' => h w' fun g h1 h2 => (hk' g (Nat.lt_of_lt_of_le h1 hs) h2).trans (hk g h1 h2)
theorem DenseIn.ext {Z : Nat → Prop} {w w2 : World} {v : Value} {d : Dn} (h : DenseIn Z w v d) (hx : Ext w w2) : DenseIn Z w2 v d := h.kept hx.size fun g h1 _ => hx.block g h1

theorem OutS.denseIn {w : World} {B : Nat} {own : Nat → Nat} {bO : Nat} {nv lv : Value} {rows : List (List Nat)} {labs : List Int} {hs : List Value} (h : OutS w B own bO nv lv rows labs hs) (h1 : rows.length ≤ 1000) (h2 : labs.length ≤ 1000) (h3 : ∀ l, l ∈ rows → l.length ≤ 1000) :
    DenseIn (fun g => B ≤ g) w (.agg #[nv, lv]) (dnOf (rows, labs)) := fun _ hk =>
  OutS.dense (own := own) (bO := bO) (hs := hs) ⟨(World.cell?_of_block (a := ⟨bO, 0, none⟩) (hk bO h.bl h.oB)).trans h.c0, (World.cell?_of_block (a := ⟨bO, 1, none⟩) (hk bO h.bl h.oB)).trans h.c1, (World.frozen?_of_block (a := ⟨bO, 0, none⟩) (hk bO h.bl h.oB)).trans h.f0, (World.frozen?_of_block (a := ⟨bO, 1, none⟩) (hk bO h.bl h.oB)).trans h.f1, h.oT, h.oB,
    own_block h.top fun g hg hl => hk g hl (h.top.lt g hg).1, h.topT, fun i hv l h4 h5 => ⟨own_block (h.row i hv l h4 h5).1 fun g hg hl => hk g hl ((h.row i hv l h4 h5).1.lt g hg).1, (h.row i hv l h4 h5).2⟩, own_block h.lab fun g hg hl => hk g hl (h.lab.lt g hg).1, h.labT⟩ h1 h2 h3
end Go.Proofs.YtpeipjfmibjoiaaDoor
