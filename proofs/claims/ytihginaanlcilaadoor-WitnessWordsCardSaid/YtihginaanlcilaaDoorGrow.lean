/- A region that reads, and calls what only adds memory, walked in the order of the text. -/
import Derived.Test.YtihginaanlcilaaDoorMem
namespace Go.Proofs.YtihginaanlcilaaDoor
open Go.RowKit

/- ---- a region that reads, and calls what only adds memory: walked once, in the order of the text ---- -/

structure More where
  blocks : List Obj
  drawn : Nat
instance : Inhabited More := ⟨⟨[], 0⟩⟩

/-- the world with new blocks, and draws -/
def growW (w : World) (z : More) : World := { w with heap := w.heap ++ z.blocks.toArray, drawn := z.drawn }

theorem grow_ext (w : World) (z : More) : Ext w (growW w z) :=
  ⟨rfl, rfl, rfl, by simp [growW], fun k hk => by simp [growW, Array.getElem?_append, hk]⟩
theorem grow_of {w w' : World} (h : Ext w w') : ∃ z, w' = growW w z := by
  refine ⟨⟨(w'.heap.toList.drop w.heap.size), w'.drawn⟩, ?_⟩
  obtain ⟨h1, h2, h3, h4, h5⟩ := h
  have hh : w'.heap = w.heap ++ (w'.heap.toList.drop w.heap.size).toArray := by
    apply Array.ext_getElem?
    intro i
    rw [Array.getElem?_append]
    split
    · rename_i hi; exact h5 i hi
    · rename_i hi
      have e : w.heap.size + (i - w.heap.size) = i := by omega
      simp [e]
  cases w; cases w'
  simp only [growW] at *
  subst h1; subst h2; subst h3
  rw [← hh]

theorem wp_region_grow {P : Program} {id : Nat} {Q : Exit → Act → World → Prop} {a : Act} {w : World} {l : List Oper} (hm : P.follows .mixedOrders = true) (hB : Region.lexB .any l.toArray = true)
    (h : wpQuiet P l.toArray (fun w' => ∃ z, w' = growW w z) (fun a' => ∀ w', (∃ z, w' = growW w z) → Q .normal a' w') l a) : (Code.region id l.toArray true).wp P Q a w :=
  wp_region_quiet (C := fun w' => ∃ z, w' = growW w z) hm hB (grow_of (Ext.drew (Ext.refl w))) (by simpa using h)

theorem calls_grow {P : Program} {f : FuncId} {args : Array Value} {w : World} {z : More} {v : Value}
    (h : Calls P f args (growW w z) fun e w' => e = .returned v ∧ Ext (growW w z) w') : Calls P f args (growW w z) fun e w'' => e = .returned v ∧ ∃ z', w'' = growW w z' :=
  h.mono fun _ _ ⟨he, hx⟩ => ⟨he, grow_of ((grow_ext w z).trans hx)⟩
end Go.Proofs.YtihginaanlcilaaDoor
