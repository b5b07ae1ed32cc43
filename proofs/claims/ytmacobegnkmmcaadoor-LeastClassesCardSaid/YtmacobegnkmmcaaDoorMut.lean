/- An automaton in memory of the call's own, changed cell by cell. No program in sight but for type numbers. -/
import Derived.Test.YtmacobegnkmmcaaDoorCopyRows
import Derived.Test.YtmacobegnkmmcaaDoorBegunMath
namespace Go.Proofs.YtmacobegnkmmcaaDoor
open Go.RowKit

/-- rows in blocks hb i, their headers in gn, the labels in gl; R and Lb tell what the cells hold -/
structure Mut (w wr : World) (gn gl cn cl : Nat) (hb hc : Nat → Nat) (N : Nat) (R : Nat → Nat → Int) (Lb : Nat → Int) : Prop where
  ext : Ext w wr
  head : ∀ i, i < N → wr.cell? ⟨gn, i, none⟩ = some (.slice (some ⟨hb i, 0, none⟩) 256 (hc i))
  row : ∀ i c, i < N → c < 256 → wr.cell? ⟨hb i, c, none⟩ = some (.int .i64 (R i c))
  lab : ∀ i, i < N → wr.cell? ⟨gl, i, none⟩ = some (.int .i64 (Lb i))
  caps : N ≤ cn ∧ N ≤ cl ∧ ∀ i, i < N → 256 ≤ hc i
  fn : ∀ j, wr.frozen? ⟨gn, j, none⟩ = false
  fl : ∀ j, wr.frozen? ⟨gl, j, none⟩ = false
  fr : ∀ i j, i < N → wr.frozen? ⟨hb i, j, none⟩ = false
  inj : ∀ i j, i < N → j < N → hb i = hb j → i = j
  off : gn ≠ gl ∧ ∀ i, i < N → hb i ≠ gn ∧ hb i ≠ gl
  new : w.heap.size ≤ gn ∧ w.heap.size ≤ gl ∧ ∀ i, i < N → w.heap.size ≤ hb i
  lt : gn < wr.heap.size ∧ gl < wr.heap.size ∧ ∀ i, i < N → hb i < wr.heap.size

section
variable {w wr wr' : World} {gn gl cn cl : Nat} {hb hc : Nat → Nat} {N : Nat} {R : Nat → Nat → Int} {Lb : Nat → Int}

theorem Mut.frm (h : Mut w wr gn gl cn cl hb hc N R Lb) {S : Nat → Nat → Prop} (hf : Frm S wr wr') (hS : ∀ b j, S b j → w.heap.size ≤ b ∧ b ≠ gn ∧ b ≠ gl ∧ ∀ i, i < N → b ≠ hb i) : Mut w wr' gn gl cn cl hb hc N R Lb where
  ext := hf.ext h.ext fun k j e => (hS k j e).1
  head := fun i hi => hf.cell_some (h.head i hi) fun e => (hS _ _ e).2.1 rfl
  row := fun i c hi hc' => hf.cell_some (h.row i c hi hc') fun e => (hS _ _ e).2.2.2 i hi rfl
  lab := fun i hi => hf.cell_some (h.lab i hi) fun e => (hS _ _ e).2.2.1 rfl
  caps := h.caps
  fn := fun j => by rw [hf.frozen _ _ h.lt.1]; exact h.fn j
  fl := fun j => by rw [hf.frozen _ _ h.lt.2.1]; exact h.fl j
  fr := fun i j hi => by rw [hf.frozen _ _ (h.lt.2.2 i hi)]; exact h.fr i j hi
  inj := h.inj
  off := h.off
  new := h.new
  lt := ⟨Nat.lt_of_lt_of_le h.lt.1 hf.size, Nat.lt_of_lt_of_le h.lt.2.1 hf.size, fun i hi => Nat.lt_of_lt_of_le (h.lt.2.2 i hi) hf.size⟩

theorem Mut.rebase {w0 : World} (h : Mut w wr gn gl cn cl hb hc N R Lb) (hx : Ext w0 w) : Mut w0 wr gn gl cn cl hb hc N R Lb :=
  { h with ext := hx.trans h.ext, new := ⟨Nat.le_trans hx.size h.new.1, Nat.le_trans hx.size h.new.2.1, fun i hi => Nat.le_trans hx.size (h.new.2.2 i hi)⟩ }

theorem Mut.grow (h : Mut w wr gn gl cn cl hb hc N R Lb) (hx : Ext wr wr') : Mut w wr' gn gl cn cl hb hc N R Lb :=
  h.frm (S := fun _ _ => False) (.of_ext hx) fun _ _ e => e.elim

theorem Mut.congr (h : Mut w wr gn gl cn cl hb hc N R Lb) {R' : Nat → Nat → Int} {Lb' : Nat → Int} (hR : ∀ i c, i < N → c < 256 → R' i c = R i c) (hL : ∀ i, i < N → Lb' i = Lb i) : Mut w wr gn gl cn cl hb hc N R' Lb' :=
  { h with row := fun i c hi hc' => by rw [hR i c hi hc']; exact h.row i c hi hc', lab := fun i hi => by rw [hL i hi]; exact h.lab i hi }

def upd2 (R : Nat → Nat → Int) (i c : Nat) (x : Int) (i' c' : Nat) : Int := if i' = i ∧ c' = c then x else R i' c'
def upd1 (L : Nat → Int) (i : Nat) (x : Int) (i' : Nat) : Int := if i' = i then x else L i'

theorem Mut.setRow (h : Mut w wr gn gl cn cl hb hc N R Lb) {i c : Nat} (hi : i < N) (hc' : c < 256) (x : Int) : Mut w (wr.setCell ⟨hb i, c, none⟩ (.int .i64 x)) gn gl cn cl hb hc N (upd2 R i c x) Lb where
  ext := h.ext.setCell (h.new.2.2 i hi) _
  head := fun j hj => by rw [World.cell?_setCell_other _ _ _ _ (by simp only [ne_eq, Addr.mk.injEq]; rintro ⟨e, _⟩; exact (h.off.2 i hi).1 (by first | exact e | exact e.symm))]; exact h.head j hj
  row := fun j q hj hq => by
    by_cases e : j = i ∧ q = c
    · obtain ⟨rfl, rfl⟩ := e
      rw [upd2, if_pos ⟨rfl, rfl⟩]
      exact World.cell?_setCell_same _ _ _ (h.row j q hj hq)
    · rw [upd2, if_neg e, World.cell?_setCell_other _ _ _ _ (by
        simp only [ne_eq, Addr.mk.injEq, and_true]; intro ⟨e1, e2⟩; exact e ⟨h.inj j i hj hi (by first | exact e1 | exact e1.symm), by omega⟩)]
      exact h.row j q hj hq
  lab := fun j hj => by rw [World.cell?_setCell_other _ _ _ _ (by simp only [ne_eq, Addr.mk.injEq]; rintro ⟨e, _⟩; exact (h.off.2 i hi).2 (by first | exact e | exact e.symm))]; exact h.lab j hj
  caps := h.caps
  fn := fun j => by rw [World.frozen?_setCell]; exact h.fn j
  fl := fun j => by rw [World.frozen?_setCell]; exact h.fl j
  fr := fun i j hi => by rw [World.frozen?_setCell]; exact h.fr i j hi
  inj := h.inj
  off := h.off
  new := h.new
  lt := by simp only [World.size_setCell]; exact h.lt

theorem Mut.setLab (h : Mut w wr gn gl cn cl hb hc N R Lb) {i : Nat} (hi : i < N) (x : Int) : Mut w (wr.setCell ⟨gl, i, none⟩ (.int .i64 x)) gn gl cn cl hb hc N R (upd1 Lb i x) where
  ext := h.ext.setCell h.new.2.1 _
  head := fun j hj => by rw [World.cell?_setCell_other _ _ _ _ (by simp only [ne_eq, Addr.mk.injEq]; rintro ⟨e, _⟩; exact h.off.1 (by first | exact e | exact e.symm))]; exact h.head j hj
  row := fun j q hj hq => by rw [World.cell?_setCell_other _ _ _ _ (by simp only [ne_eq, Addr.mk.injEq]; rintro ⟨e, _⟩; exact (h.off.2 j hj).2 (by first | exact e | exact e.symm))]; exact h.row j q hj hq
  lab := fun j hj => by
    by_cases e : j = i
    · subst e
      rw [upd1, if_pos rfl]
      exact World.cell?_setCell_same _ _ _ (h.lab j hj)
    · rw [upd1, if_neg e, World.cell?_setCell_other _ _ _ _ (by simp only [ne_eq, Addr.mk.injEq]; rintro ⟨_, e', _⟩; omega)]
      exact h.lab j hj
  caps := h.caps
  fn := fun j => by rw [World.frozen?_setCell]; exact h.fn j
  fl := fun j => by rw [World.frozen?_setCell]; exact h.fl j
  fr := fun i j hi => by rw [World.frozen?_setCell]; exact h.fr i j hi
  inj := h.inj
  off := h.off
  new := h.new
  lt := by simp only [World.size_setCell]; exact h.lt

theorem Mut.swapHead (h : Mut w wr gn gl cn cl hb hc N R Lb) {s : Nat} (hs : s < N) :
    Mut w ((wr.setCell ⟨gn, 0, none⟩ (.slice (some ⟨hb s, 0, none⟩) 256 (hc s))).setCell ⟨gn, s, none⟩ (.slice (some ⟨hb 0, 0, none⟩) 256 (hc 0))) gn gl cn cl (fun i => hb (sw s i)) (fun i => hc (sw s i)) N (fun i c => R (sw s i) c) Lb where
  ext := (h.ext.setCell h.new.1 _).setCell h.new.1 _
  head := fun j hj => by
    have h0 : 0 < N := by omega
    have e0 := World.cell?_setCell_same (v := .slice (some ⟨hb s, 0, none⟩) 256 (hc s)) _ _ (h.head 0 h0)
    by_cases e : j = s
    · subst e
      rw [sw_self]
      have h1 : ∃ u, (wr.setCell ⟨gn, 0, none⟩ (.slice (some ⟨hb j, 0, none⟩) 256 (hc j))).cell? ⟨gn, j, none⟩ = some u := by
        by_cases e2 : j = 0
        · subst e2; exact ⟨_, e0⟩
        · rw [World.cell?_setCell_other _ _ _ _ (by simp only [ne_eq, Addr.mk.injEq]; rintro ⟨_, e', _⟩; omega)]; exact ⟨_, h.head j hj⟩
      obtain ⟨u, h1⟩ := h1
      exact World.cell?_setCell_same _ _ _ h1
    · rw [World.cell?_setCell_other _ _ _ _ (by simp only [ne_eq, Addr.mk.injEq]; rintro ⟨_, e', _⟩; omega)]
      by_cases e2 : j = 0
      · subst e2; rw [sw_zero]; exact e0
      · rw [World.cell?_setCell_other _ _ _ _ (by simp only [ne_eq, Addr.mk.injEq]; rintro ⟨_, e', _⟩; omega), show sw s j = j by unfold sw; rw [if_neg e2, if_neg e]]; exact h.head j hj
  row := fun j q hj hq => by
    have := sw_lt hs hj
    rw [World.cell?_setCell_other _ _ _ _ (by simp only [ne_eq, Addr.mk.injEq]; rintro ⟨e, _⟩; exact (h.off.2 _ this).1 (by first | exact e | exact e.symm)),
      World.cell?_setCell_other _ _ _ _ (by simp only [ne_eq, Addr.mk.injEq]; rintro ⟨e, _⟩; exact (h.off.2 _ this).1 (by first | exact e | exact e.symm))]
    exact h.row _ q this hq
  lab := fun j hj => by
    rw [World.cell?_setCell_other _ _ _ _ (by simp only [ne_eq, Addr.mk.injEq]; rintro ⟨e, _⟩; exact h.off.1 (by first | exact e | exact e.symm)),
      World.cell?_setCell_other _ _ _ _ (by simp only [ne_eq, Addr.mk.injEq]; rintro ⟨e, _⟩; exact h.off.1 (by first | exact e | exact e.symm))]
    exact h.lab j hj
  caps := ⟨h.caps.1, h.caps.2.1, fun i hi => h.caps.2.2 _ (sw_lt hs hi)⟩
  fn := fun j => by rw [World.frozen?_setCell, World.frozen?_setCell]; exact h.fn j
  fl := fun j => by rw [World.frozen?_setCell, World.frozen?_setCell]; exact h.fl j
  fr := fun i j hi => by rw [World.frozen?_setCell, World.frozen?_setCell]; exact h.fr _ j (sw_lt hs hi)
  inj := fun i j hi hj e => sw_inj (h.inj _ _ (sw_lt hs hi) (sw_lt hs hj) e)
  off := ⟨h.off.1, fun i hi => h.off.2 _ (sw_lt hs hi)⟩
  new := ⟨h.new.1, h.new.2.1, fun i hi => h.new.2.2 _ (sw_lt hs hi)⟩
  lt := by simp only [World.size_setCell]; exact ⟨h.lt.1, h.lt.2.1, fun i hi => h.lt.2.2 _ (sw_lt hs hi)⟩

theorem swap_lab (Lb : Nat → Int) (s i : Nat) : upd1 (upd1 Lb 0 (Lb s)) s (Lb 0) i = Lb (sw s i) := by
  unfold upd1
  by_cases e : i = s
  · rw [if_pos e, e, sw_self]
  · rw [if_neg e]
    by_cases e2 : i = 0
    · rw [if_pos e2, e2, sw_zero]
    · rw [if_neg e2, sw, if_neg e2, if_neg e]
theorem Mut.swapLab (h : Mut w wr gn gl cn cl hb hc N R Lb) {s : Nat} (hs : s < N) :
    Mut w ((wr.setCell ⟨gl, 0, none⟩ (.int .i64 (Lb s))).setCell ⟨gl, s, none⟩ (.int .i64 (Lb 0))) gn gl cn cl hb hc N R (fun i => Lb (sw s i)) :=
  ((h.setLab (by omega : 0 < N) (Lb s)).setLab hs (Lb 0)).congr (fun _ _ _ _ => rfl) (fun i _ => (swap_lab Lb s i).symm)

theorem Mut.dense (h : Mut w wr gn gl cn cl hb hc N R Lb) (hN : N ≤ 600) {d : Dn} (hd : d.next.length = N) (hl : d.label.length = N) (hrow : ∀ i, i < N → (d.next.getD i []).length = 256)
    (hR : ∀ i c, i < N → c < 256 → (d.next.getD i []).getD c 0 = R i c) (hL : ∀ i, i < N → d.label.getD i 0 = Lb i) : DenseV wr (.agg #[.slice (some ⟨gn, 0, none⟩) N cn, .slice (some ⟨gl, 0, none⟩) N cl]) d := by
  refine ⟨_, _, rfl, ⟨by omega, _, cn, by rw [hd], ⟨by rw [hd]; exact h.caps.1, fun e => by cases e⟩, fun _ => ⟨gn, 0, rfl, fun i x hx => ?_⟩⟩,
    ⟨by omega, _, cl, by rw [hl], ⟨by rw [hl]; exact h.caps.2.1, fun e => by cases e⟩, fun _ => ⟨gl, 0, rfl, fun i x hx => ?_⟩⟩⟩
  · have hi := (List.getElem?_eq_some_iff.1 hx).1
    have hxe : d.next.getD i [] = x := by rw [List.getD_eq_getElem?_getD, hx]; rfl
    have h256 := hrow i (by omega)
    rw [hxe] at h256
    rw [Nat.mul_one, Nat.zero_add]
    refine ⟨_, h.head i (by omega), by omega, _, hc i, by rw [h256], ⟨by rw [h256]; exact h.caps.2.2 i (by omega), fun e => by cases e⟩, fun _ => ⟨hb i, 0, rfl, fun c y hy => ?_⟩⟩
    have hcl := (List.getElem?_eq_some_iff.1 hy).1
    have := hR i c (by omega) (by omega)
    rw [hxe, List.getD_eq_getElem?_getD, hy] at this
    rw [Nat.mul_one, Nat.zero_add]
    unfold IntAt
    rw [h.row i c (by omega) (by omega), ← this]
    rfl
  · have hi := (List.getElem?_eq_some_iff.1 hx).1
    have := hL i (by omega)
    rw [List.getD_eq_getElem?_getD, hx] at this
    rw [Nat.mul_one, Nat.zero_add]
    unfold IntAt
    rw [h.lab i (by omega), ← this]
    rfl
end

/-- out of a copy -/
theorem OwnDense.mut {w w1 : World} {B : Nat} {own : Nat → Nat} {vn vl : Value} {hs : List Value} {d : Dn} (h : OwnDense w1 B own vn vl hs d.next d.label) (hm : May d) (hx : Ext w w1) (hB : w.heap.size ≤ B) :
    ∃ gn gl cn cl hb hc, vn = .slice (some ⟨gn, 0, none⟩) d.next.length cn ∧ vl = .slice (some ⟨gl, 0, none⟩) d.next.length cl ∧ B ≤ gn ∧ B ≤ gl ∧ (∀ i, i < d.next.length → B ≤ hb i) ∧
      Mut w w1 gn gl cn cl hb hc d.next.length (fun i c => (d.nx i c : Int)) (fun i => d.lb i) := by
  have hpos := hm.pos
  obtain ⟨gn, cn, rfl, hn1, hn2⟩ := own_slc h.tab.top (by omega)
  have hl0 := h.label
  rw [hm.labels] at hl0
  obtain ⟨gl, cl, rfl, hl1, hl2⟩ := own_slc hl0 (by omega)
  have hhl := h.tab.hlen
  have key : ∀ i, ∃ g c, i < d.next.length → hs[i]? = some (.slice (some ⟨g, 0, none⟩) 256 c) ∧ w1.ownsRow B 3 1 (.slice (some ⟨g, 0, none⟩) 256 c) 256 (intsV (d.next.getD i [])) ∧ own g = i + 1 ∧ B ≤ g ∧ g < w1.heap.size := by
    intro i
    by_cases hi : i < d.next.length
    · have e1 : hs[i]? = some (hs[i]'(by omega)) := List.getElem?_eq_getElem _
      have e2 : d.next[i]? = some (d.next.getD i []) := by rw [List.getD_eq_getElem?_getD, List.getElem?_eq_getElem hi]; rfl
      obtain ⟨q1, q2⟩ := h.tab.row i _ _ e1 e2
      rw [hm.row i hi] at q1
      obtain ⟨g, c, hv, hg1, hg2⟩ := own_slc q1 (by omega)
      rw [hv] at e1 q1 q2
      exact ⟨g, c, fun _ => ⟨e1, q1, q2 g rfl, hg1, hg2⟩⟩
    · exact ⟨0, 0, fun e => absurd e hi⟩
  let hb := fun i => (key i).choose
  let hc := fun i => (key i).choose_spec.choose
  have kk : ∀ i, i < d.next.length → hs[i]? = some (.slice (some ⟨hb i, 0, none⟩) 256 (hc i)) ∧ w1.ownsRow B 3 1 (.slice (some ⟨hb i, 0, none⟩) 256 (hc i)) 256 (intsV (d.next.getD i [])) ∧ own (hb i) = i + 1 ∧ B ≤ hb i ∧ hb i < w1.heap.size :=
    fun i hi => (key i).choose_spec.choose_spec hi
  have on := h.tab.topOwn gn rfl
  have ol := h.labelOwn gl rfl
  refine ⟨gn, gl, cn, cl, hb, hc, rfl, rfl, hn1, hl1, fun i hi => (kk i hi).2.2.2.1, hx, fun i hi => ?_, fun i c hi hc' => ?_, fun i hi => ?_, ⟨own_caps h.tab.top, own_caps hl0, fun i hi => own_caps (kk i hi).2.1⟩,
    fun j => h.tab.top.frozenAt j, fun j => hl0.frozenAt j, fun i j hi => (kk i hi).2.1.frozenAt j, fun i j hi hj e => ?_, ⟨fun e => ?_, fun i hi => ⟨fun e => ?_, fun e => ?_⟩⟩,
    ⟨by omega, by omega, fun i hi => by have := (kk i hi).2.2.2.1; omega⟩, ⟨hn2, hl2, fun i hi => (kk i hi).2.2.2.2⟩⟩
  · rw [h.tab.top.cellAt i (by omega)]; exact (kk i hi).1
  · rw [(kk i hi).2.1.cellAt c (by omega), List.getElem?_map, List.getElem?_eq_getElem (by rw [hm.row i hi]; exact hc')]
    have := hm.nx_int hi hc'
    rw [List.getD_eq_getElem?_getD, List.getElem?_eq_getElem (by rw [hm.row i hi]; exact hc')] at this
    simp only [Option.getD_some] at this
    rw [Option.map_some, this]
  · rw [hl0.cellAt i (by omega), List.getElem?_map, List.getElem?_eq_getElem (by rw [hm.labels]; exact hi)]
    show _ = some (Value.int .i64 (d.label.getD i 0))
    rw [List.getD_eq_getElem?_getD, List.getElem?_eq_getElem (by rw [hm.labels]; exact hi)]; rfl
  · have e1 := (kk i hi).2.2.1
    have e2 := (kk j hj).2.2.1
    rw [e] at e1; omega
  · rw [e] at on; omega
  · have e1 := (kk i hi).2.2.1
    rw [e] at e1; omega
  · have e1 := (kk i hi).2.2.1
    rw [e] at e1; omega
end Go.Proofs.YtmacobegnkmmcaaDoor
