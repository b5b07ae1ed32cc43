/- A frame finer than blocks: all places but those of S are as they were. -/
import Derived.Test.YtihginaanlcilaaDoorBase
namespace Go.Proofs.YtihginaanlcilaaDoor
open Go.RowKit

structure Frm (S : Nat → Nat → Prop) (w w' : World) : Prop where
  os : w'.os = w.os
  tape : w'.tape = w.tape
  output : w'.output = w.output
  size : w.heap.size ≤ w'.heap.size
  block : ∀ k, k < w.heap.size → (∀ j, ¬ S k j) → w'.heap[k]? = w.heap[k]?
  cell : ∀ k j, k < w.heap.size → ¬ S k j → w'.cell? ⟨k, j, none⟩ = w.cell? ⟨k, j, none⟩
  frozen : ∀ k j, k < w.heap.size → w'.frozen? ⟨k, j, none⟩ = w.frozen? ⟨k, j, none⟩

theorem Frm.refl (S : Nat → Nat → Prop) (w : World) : Frm S w w := ⟨rfl, rfl, rfl, Nat.le_refl _, fun _ _ _ => rfl, fun _ _ _ _ => rfl, fun _ _ _ => rfl⟩
theorem Frm.trans {S : Nat → Nat → Prop} {a b c : World} (h : Frm S a b) (k : Frm S b c) : Frm S a c :=
  ⟨k.os.trans h.os, k.tape.trans h.tape, k.output.trans h.output, Nat.le_trans h.size k.size,
    fun i hi hS => (k.block i (Nat.lt_of_lt_of_le hi h.size) hS).trans (h.block i hi hS),
    fun i j hi hS => (k.cell i j (Nat.lt_of_lt_of_le hi h.size) hS).trans (h.cell i j hi hS),
    fun i j hi => (k.frozen i j (Nat.lt_of_lt_of_le hi h.size)).trans (h.frozen i j hi)⟩
theorem Frm.mono {S S' : Nat → Nat → Prop} {a b : World} (h : Frm S a b) (hS : ∀ k j, S k j → S' k j) : Frm S' a b :=
  ⟨h.os, h.tape, h.output, h.size, fun i hi hn => h.block i hi (fun j hs => hn j (hS _ _ hs)), fun i j hi hn => h.cell i j hi (fun hs => hn (hS _ _ hs)), h.frozen⟩
theorem Frm.of_ext {S : Nat → Nat → Prop} {a b : World} (h : Ext a b) : Frm S a b :=
  ⟨h.os, h.tape, h.output, h.size, fun k hk _ => h.block k hk, fun k j hk _ => Below.cell h (p := ⟨k, j, none⟩) hk, fun k j hk => Below.frozen h (p := ⟨k, j, none⟩) hk⟩
/-- what is written lies from B on: below B all is as it was -/
theorem Frm.below {S : Nat → Nat → Prop} {a b : World} (h : Frm S a b) {B : Nat} (hB : B ≤ a.heap.size) (hS : ∀ k j, S k j → B ≤ k) : Below B a b :=
  ⟨h.os, h.tape, h.output, h.size, fun k hk => h.block k (by omega) (fun j hs => by have := hS k j hs; omega)⟩
theorem Frm.ext {S : Nat → Nat → Prop} {w a b : World} (h : Frm S a b) (hw : Ext w a) (hS : ∀ k j, S k j → w.heap.size ≤ k) : Ext w b :=
  Below.trans hw (h.below hw.size hS)
theorem Frm.alloc {S : Nat → Nat → Prop} {a b : World} (h : Frm S a b) (o : Obj) : Frm S a (b.alloc o) := h.trans (.of_ext (Ext.box _ _))
theorem Frm.drew {S : Nat → Nat → Prop} {a b : World} (h : Frm S a b) : Frm S a b.drew := h.trans (.of_ext (Ext.drew (Ext.refl _)))
theorem Frm.drewN {S : Nat → Nat → Prop} {a b : World} (h : Frm S a b) (n : Nat) : Frm S a (b.drewN n) := h.trans (.of_ext (Ext.drewN (Ext.refl _) n))
theorem Frm.setCell {S : Nat → Nat → Prop} {a b : World} (h : Frm S a b) {k j : Nat} (hS : S k j ∨ a.heap.size ≤ k) (v : Value) : Frm S a (b.setCell ⟨k, j, none⟩ v) := by
  refine ⟨h.os, h.tape, h.output, by rw [World.size_setCell]; exact h.size, fun i hi hn => ?_, fun i l hi hn => ?_, fun i l hi => ?_⟩
  · have : i ≠ k := by
      rintro rfl
      rcases hS with hS | hS
      · exact hn j hS
      · omega
    rw [Below.heap_setCell _ _ _ _ this]
    exact h.block i hi hn
  · rw [World.cell?_setCell_other]
    · exact h.cell i l hi hn
    · intro e
      have e1 := congrArg Addr.block e
      have e2 := congrArg Addr.off e
      simp only at e1 e2
      subst e1; subst e2
      rcases hS with hS | hS
      · exact hn hS
      · omega
  · rw [World.frozen?_setCell]
    exact h.frozen i l hi

theorem Frm.cell_some {S : Nat → Nat → Prop} {a b : World} (h : Frm S a b) {k j : Nat} {v : Value} (hv : a.cell? ⟨k, j, none⟩ = some v) (hS : ¬ S k j) : b.cell? ⟨k, j, none⟩ = some v := by
  rw [h.cell k j (World.block_lt_of_cell? _ _ hv) hS]; exact hv
theorem Frm.frozen_some {S : Nat → Nat → Prop} {a b : World} (h : Frm S a b) {k j : Nat} {v : Value} (hv : a.cell? ⟨k, j, none⟩ = some v) {f : Bool} (hf : a.frozen? ⟨k, j, none⟩ = f) : b.frozen? ⟨k, j, none⟩ = f := by
  rw [h.frozen k j (World.block_lt_of_cell? _ _ hv)]; exact hf
end Go.Proofs.YtihginaanlcilaaDoor
