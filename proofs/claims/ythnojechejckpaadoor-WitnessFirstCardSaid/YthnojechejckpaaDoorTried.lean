/- What the laws of two automata share: their argument's box. -/
import Derived.Test.YthnojechejckpaaDoorFirstS
import Derived.Test.YthnojechejckpaaDoorMay
import Derived.Test.YthnojechejckpaaDoorDenseForm
import Derived.Test.YthnojechejckpaaDoorGrow
namespace Go.Proofs.YthnojechejckpaaDoor
open Go.RowKit

abbrev Wakes13 : Prop := ∀ w, Calls Tryd.prog 19 #[] w fun e w' => e = .returned (.bool true) ∧ Ext w w'

/-- the argument's cells, in its box -/
theorem box5 {w : World} {a b c d e : Value} {t : TypeId} : ∀ W, Ext (w.alloc (.cells #[a, b, c, d, e] t)) W →
    W.cell? ⟨w.heap.size, 0, none⟩ = some a ∧ W.cell? ⟨w.heap.size, 1, none⟩ = some b ∧ W.cell? ⟨w.heap.size, 2, none⟩ = some c ∧ W.cell? ⟨w.heap.size, 3, none⟩ = some d ∧ W.cell? ⟨w.heap.size, 4, none⟩ = some e :=
  fun _ hx => ⟨hx.cell (new_cell rfl), hx.cell (new_cell rfl), hx.cell (new_cell rfl), hx.cell (new_cell rfl), hx.cell (new_cell rfl)⟩
end Go.Proofs.YthnojechejckpaaDoor
