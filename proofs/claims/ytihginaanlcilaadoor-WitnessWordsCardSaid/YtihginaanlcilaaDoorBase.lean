/- The words by which this seat's contracts speak of memory: slices of ints, bytes, rows, automata; that what was there stays as it was. No program in sight. -/
import Derived.WalkKit
import Derived.WalkSpells
import Derived.WalkLawsBesides
import Derived.Deep.QuietTactic
import Derived.BigQuiet
import Derived.Deep.LoopGhost
import Derived.Lib.Hide
import Derived.Deep.Light
namespace Go.Proofs.YtihginaanlcilaaDoor
open Go.RowKit

/-- what was there is as it was -/
abbrev Ext (w w' : World) : Prop := Below w.heap.size w w'

theorem Ext.refl (w : World) : Ext w w := Below.refl _ _
theorem Ext.trans {a b c : World} (h : Ext a b) (k : Ext b c) : Ext a c := Below.trans h (Below.mono k h.size)
theorem Ext.alloc {a b : World} (h : Ext a b) (o : Obj) : Ext a (b.alloc o) := Below.alloc h h.size o
theorem Ext.drew {a b : World} (h : Ext a b) : Ext a b.drew := Below.drew h
theorem Ext.drewN {a b : World} (h : Ext a b) (n : Nat) : Ext a (b.drewN n) := below_drewN h n
theorem Ext.box (w : World) (o : Obj) : Ext w (w.alloc o) := (Ext.refl w).alloc o
theorem Ext.cell {a b : World} (h : Ext a b) {p : Addr} {v : Value} (hv : a.cell? p = some v) : b.cell? p = some v := by
  rw [Below.cell h (World.block_lt_of_cell? _ _ hv)]; exact hv

/-- v is a slice; R says what lies at its elements' places, `size` cells each -/
def SliceV {α : Type} (size : Nat) (R : World → Nat → Nat → α → Prop) (w : World) (v : Value) (l : List α) : Prop :=
  l.length ≤ 140737488355328 ∧ ∃ a cap, v = .slice a l.length cap ∧ (l.length ≤ cap ∧ (a = none → cap = 0)) ∧ (0 < l.length → ∃ b o, a = some ⟨b, o, none⟩ ∧ ∀ i x, l[i]? = some x → R w b (o + i * size) x)

theorem SliceV.mono {α : Type} {size : Nat} {R : World → Nat → Nat → α → Prop} {w w' : World} {v : Value} {l : List α} (h : SliceV size R w v l)
    (hR : ∀ b o x, R w b o x → R w' b o x) : SliceV size R w' v l := by
  obtain ⟨h1, a, cap, h2, hc, h3⟩ := h
  refine ⟨h1, a, cap, h2, hc, fun hl => ?_⟩
  obtain ⟨b, o, h4, h5⟩ := h3 hl
  exact ⟨b, o, h4, fun i x hx => hR _ _ _ (h5 i x hx)⟩

/-- one cell of a kind of integer -/
def IntAt (k : IntKind) (w : World) (b o : Nat) (x : Int) : Prop := w.cell? ⟨b, o, none⟩ = some (.int k x)
def BoolAt (w : World) (b o : Nat) (x : Bool) : Prop := w.cell? ⟨b, o, none⟩ = some (.bool x)
/-- a cell that holds a slice -/
def SliceAt {α : Type} (size : Nat) (R : World → Nat → Nat → α → Prop) (w : World) (b o : Nat) (l : List α) : Prop := ∃ v, w.cell? ⟨b, o, none⟩ = some v ∧ SliceV size R w v l

abbrev IntsK (k : IntKind) (w : World) (v : Value) (l : List Int) : Prop := SliceV 1 (IntAt k) w v l
abbrev Ints (w : World) (v : Value) (l : List Int) : Prop := IntsK .i64 w v l
abbrev RowsV (w : World) (v : Value) (l : List (List Int)) : Prop := SliceV 1 (SliceAt 1 (IntAt .i64)) w v l
abbrev BoolsV (w : World) (v : Value) (l : List Bool) : Prop := SliceV 1 BoolAt w v l

theorem IntAt.mono {k : IntKind} {w w' : World} (h : Ext w w') {b o : Nat} {x : Int} (hx : IntAt k w b o x) : IntAt k w' b o x := h.cell hx
theorem BoolAt.mono {w w' : World} (h : Ext w w') {b o : Nat} {x : Bool} (hx : BoolAt w b o x) : BoolAt w' b o x := h.cell hx
theorem SliceAt.mono {α : Type} {size : Nat} {R : World → Nat → Nat → α → Prop} {w w' : World} (h : Ext w w') (hR : ∀ b o x, R w b o x → R w' b o x) {b o : Nat} {l : List α}
    (hx : SliceAt size R w b o l) : SliceAt size R w' b o l := by
  obtain ⟨v, h1, h2⟩ := hx
  exact ⟨v, h.cell h1, h2.mono hR⟩

theorem IntsK.ext {k : IntKind} {w w' : World} (h : Ext w w') {v : Value} {l : List Int} (hv : IntsK k w v l) : IntsK k w' v l := hv.mono fun _ _ _ => IntAt.mono h
theorem BoolsV.ext {w w' : World} (h : Ext w w') {v : Value} {l : List Bool} (hv : BoolsV w v l) : BoolsV w' v l := hv.mono fun _ _ _ => BoolAt.mono h
theorem RowsV.ext {w w' : World} (h : Ext w w') {v : Value} {l : List (List Int)} (hv : RowsV w v l) : RowsV w' v l := hv.mono fun _ _ _ => SliceAt.mono h fun _ _ _ => IntAt.mono h

/-- a slice of integers, opened: the cells at the places as the walk reckons them -/
theorem IntsK.open {k : IntKind} {w : World} {v : Value} {l : List Int} (h : IntsK k w v l) :
    l.length ≤ 140737488355328 ∧ ∃ a cap, v = .slice a l.length cap ∧ (l.length ≤ cap ∧ (a = none → cap = 0)) ∧ (0 < l.length → ∃ b o, a = some ⟨b, o, none⟩ ∧ ∀ i, i < l.length → w.cell? ⟨b, o + i, none⟩ = some (.int k (l.getD i 0))) := by
  obtain ⟨h1, a, cap, h2, hc, h3⟩ := h
  refine ⟨h1, a, cap, h2, hc, fun h => ?_⟩
  obtain ⟨b, o, h4, h5⟩ := h3 h
  refine ⟨b, o, h4, fun i hi => ?_⟩
  have := h5 i _ (List.getElem?_eq_getElem hi)
  rw [Nat.mul_one] at this
  rw [List.getD_eq_getElem?_getD, List.getElem?_eq_getElem hi]
  exact this

theorem RowsV.open {w : World} {v : Value} {l : List (List Int)} (h : RowsV w v l) :
    l.length ≤ 140737488355328 ∧ ∃ a cap, v = .slice a l.length cap ∧ (l.length ≤ cap ∧ (a = none → cap = 0)) ∧ (0 < l.length → ∃ b o, a = some ⟨b, o, none⟩ ∧ ∀ i, i < l.length → ∃ r, w.cell? ⟨b, o + i, none⟩ = some r ∧ Ints w r (l.getD i [])) := by
  obtain ⟨h1, a, cap, h2, hc, h3⟩ := h
  refine ⟨h1, a, cap, h2, hc, fun h => ?_⟩
  obtain ⟨b, o, h4, h5⟩ := h3 h
  refine ⟨b, o, h4, fun i hi => ?_⟩
  have := h5 i _ (List.getElem?_eq_getElem hi)
  rw [Nat.mul_one] at this
  rw [List.getD_eq_getElem?_getD, List.getElem?_eq_getElem hi]
  exact this

/-- an automaton, as data -/
structure Dn where
  next : List (List Int)
  label : List Int

def DenseV (w : World) (v : Value) (d : Dn) : Prop := ∃ vn vl, v = .agg #[vn, vl] ∧ RowsV w vn d.next ∧ Ints w vl d.label
def DenseAt (w : World) (b o : Nat) (d : Dn) : Prop := SliceAt 1 (SliceAt 1 (IntAt .i64)) w b o d.next ∧ SliceAt 1 (IntAt .i64) w b (o + 1) d.label

theorem DenseV.ext {w w' : World} (h : Ext w w') {v : Value} {d : Dn} (hv : DenseV w v d) : DenseV w' v d := by
  obtain ⟨vn, vl, h1, h2, h3⟩ := hv
  exact ⟨vn, vl, h1, RowsV.ext h h2, IntsK.ext h h3⟩
theorem DenseAt.ext {w w' : World} (h : Ext w w') {b o : Nat} {d : Dn} (hv : DenseAt w b o d) : DenseAt w' b o d :=
  ⟨SliceAt.mono h (fun _ _ _ => SliceAt.mono h fun _ _ _ => IntAt.mono h) hv.1, SliceAt.mono h (fun _ _ _ => IntAt.mono h) hv.2⟩

theorem ret_bool {a b : Bool} (h : a = b) : Ending.returned (.bool a) = Ending.returned (.bool b) := by rw [h]
theorem ret_int {k : IntKind} {a b : Int} (h : a = b) : Ending.returned (.int k a) = Ending.returned (.int k b) := by rw [h]

/-- may an automaton be? -/
structure May (d : Dn) : Prop where
  pos : 1 ≤ d.next.length
  most : d.next.length ≤ 600
  labels : d.label.length = d.next.length
  row : ∀ i, i < d.next.length → (d.next.getD i []).length = 256
  label : ∀ i, i < d.next.length → -1 ≤ d.label.getD i 0 ∧ d.label.getD i 0 < 200
  to : ∀ i c, i < d.next.length → c < 256 → 0 ≤ (d.next.getD i []).getD c 0 ∧ (d.next.getD i []).getD c 0 < d.next.length

noncomputable def mayB (d : Dn) : Bool := @decide (May d) (Classical.propDecidable _)
theorem mayB_true {d : Dn} : mayB d = true ↔ May d := by simp [mayB]
theorem mayB_false {d : Dn} (h : ¬ May d) : mayB d = false := by simp [mayB, h]

end Go.Proofs.YtihginaanlcilaaDoor
