/- Structs of three cells in a row, exchanged in place. No function of the program in sight. -/
import Derived.Test.YtpeipjfmibjoiaaDoorOwn
namespace Go.Proofs.YtpeipjfmibjoiaaDoor
open Go.RowKit

structure RowE where
  s : Int
  d : Int
  a : Option Addr
  n : Nat
  c : Nat
abbrev RowE.val (x : RowE) : Value := .agg #[.int .i64 x.s, .int .i64 x.d, .slice x.a x.n x.c]

/-- l lies in block g, from its first cell on -/
structure Elts (w : World) (g : Nat) (l : List RowE) : Prop where
  c0 : ∀ (i : Nat) (x : RowE), l[i]? = some x → w.cell? ⟨g, i * 3, none⟩ = some (.int .i64 x.s)
  c1 : ∀ (i : Nat) (x : RowE), l[i]? = some x → w.cell? ⟨g, i * 3 + 1, none⟩ = some (.int .i64 x.d)
  c2 : ∀ (i : Nat) (x : RowE), l[i]? = some x → w.cell? ⟨g, i * 3 + 2, none⟩ = some (.slice x.a x.n x.c)
  fz : ∀ i, w.frozen? ⟨g, i, none⟩ = false

section
variable {w w' : World} {g : Nat} {l l' : List RowE}
theorem Elts.lt (h : Elts w g l) (hl : 0 < l.length) : g < w.heap.size := lt_of_cell (h.c0 0 _ (List.getElem?_eq_getElem hl))
theorem Elts.ext (h : Elts w g l) (hl : 0 < l.length) (hx : Ext w w') : Elts w' g l :=
  ⟨fun i x hi => hx.cell (h.c0 i x hi), fun i x hi => hx.cell (h.c1 i x hi), fun i x hi => hx.cell (h.c2 i x hi), fun i => by rw [Below.frozen hx (p := ⟨g, i, none⟩) (h.lt hl)]; exact h.fz i⟩

abbrev put3 (w : World) (g p : Nat) (x : RowE) : World := ((w.setCell ⟨g, p * 3, none⟩ (.int .i64 x.s)).setCell ⟨g, p * 3 + 1, none⟩ (.int .i64 x.d)).setCell ⟨g, p * 3 + 2, none⟩ (.slice x.a x.n x.c)
theorem off_ne {g i j : Nat} (h : i ≠ j) : (⟨g, i, none⟩ : Addr) ≠ ⟨g, j, none⟩ := fun e => h (congrArg Addr.off e)
theorem Elts.put (h : Elts w g l) {p : Nat} (hp : p < l.length) (x : RowE) : Elts (put3 w g p x) g (l.set p x) := by
  have hx := List.getElem?_eq_getElem hp
  have k0 := h.c0 p _ hx
  have k1 := h.c1 p _ hx
  have k2 := h.c2 p _ hx
  have hoth : ∀ i y, i ≠ p → (l.set p x)[i]? = some y → l[i]? = some y := fun i y hne hi => by rwa [List.getElem?_set_ne (Ne.symm hne)] at hi
  have hsame : ∀ y, (l.set p x)[p]? = some y → y = x := fun y hi => by rw [List.getElem?_set_self hp] at hi; exact (Option.some.inj hi).symm
  refine ⟨fun i y hi => ?_, fun i y hi => ?_, fun i y hi => ?_, fun i => ?_⟩
  · rw [World.cell?_setCell_other _ _ _ _ (off_ne (by omega)), World.cell?_setCell_other _ _ _ _ (off_ne (by omega))]
    by_cases e : i = p
    · subst e; rw [hsame y hi]; exact World.cell?_setCell_same _ _ _ k0
    · rw [World.cell?_setCell_other _ _ _ _ (off_ne (by omega))]; exact h.c0 i y (hoth i y e hi)
  · rw [World.cell?_setCell_other _ _ _ _ (off_ne (by omega))]
    by_cases e : i = p
    · subst e; rw [hsame y hi]
      exact World.cell?_setCell_same _ _ _ (by rw [World.cell?_setCell_other _ _ _ _ (off_ne (by omega))]; exact k1)
    · rw [World.cell?_setCell_other _ _ _ _ (off_ne (by omega)), World.cell?_setCell_other _ _ _ _ (off_ne (by omega))]; exact h.c1 i y (hoth i y e hi)
  · by_cases e : i = p
    · subst e; rw [hsame y hi]
      exact World.cell?_setCell_same _ _ _ (by rw [World.cell?_setCell_other _ _ _ _ (off_ne (by omega)), World.cell?_setCell_other _ _ _ _ (off_ne (by omega))]; exact k2)
    · rw [World.cell?_setCell_other _ _ _ _ (off_ne (by omega)), World.cell?_setCell_other _ _ _ _ (off_ne (by omega)), World.cell?_setCell_other _ _ _ _ (off_ne (by omega))]; exact h.c2 i y (hoth i y e hi)
  · rw [World.frozen?_setCell, World.frozen?_setCell, World.frozen?_setCell]; exact h.fz i
theorem put3_frm (hf : Frm (fun k _ => k = g) w w') (p : Nat) (x : RowE) : Frm (fun k _ => k = g) w (put3 w' g p x) := ((hf.setCell (.inl rfl) _).setCell (.inl rfl) _).setCell (.inl rfl) _

/-- the elements in some order; nothing else is written -/
structure Perm3 (w : World) (g : Nat) (l : List RowE) (w' : World) : Prop where
  some : ∃ l', l'.Perm l ∧ Elts w' g l'
  frm : Frm (fun k _ => k = g) w w'
theorem Perm3.refl (h : Elts w g l) : Perm3 w g l w := ⟨⟨l, .refl _, h⟩, Frm.refl _ _⟩
theorem Perm3.ext (h : Perm3 w g l w') (hl : 0 < l.length) {w2 : World} (hx : Ext w' w2) : Perm3 w g l w2 := by
  obtain ⟨l', hp, he⟩ := h.some
  exact ⟨⟨l', hp, he.ext (by rw [hp.length_eq]; exact hl) hx⟩, h.frm.trans (.of_ext hx)⟩
theorem Perm3.trans (h : Perm3 w g l w') {w2 : World} (k : ∀ l', l'.Perm l → Elts w' g l' → Perm3 w' g l' w2) : Perm3 w g l w2 := by
  obtain ⟨l', hp, he⟩ := h.some
  obtain ⟨⟨l2, hp2, he2⟩, hf⟩ := k l' hp he
  exact ⟨⟨l2, hp2.trans hp, he2⟩, h.frm.trans hf⟩
theorem Perm3.swap (h : Perm3 w g l w') {l1 : List RowE} (hp : l1.Perm l) (he : Elts w' g l1) {p q : Nat} {x y : RowE} (hx : l1[p]? = .some x) (hy : l1[q]? = .some y) : Perm3 w g l (put3 (put3 w' g p y) g q x) := by
  obtain ⟨h1, rfl⟩ := List.getElem?_eq_some_iff.1 hx
  obtain ⟨h2, rfl⟩ := List.getElem?_eq_some_iff.1 hy
  refine ⟨⟨(l1.set p l1[q]).set q l1[p], (List.set_set_perm h1 h2).trans hp, (he.put h1 _).put (by rw [List.length_set]; exact h2) _⟩, put3_frm (put3_frm h.frm _ _) _ _⟩
end
end Go.Proofs.YtpeipjfmibjoiaaDoor
