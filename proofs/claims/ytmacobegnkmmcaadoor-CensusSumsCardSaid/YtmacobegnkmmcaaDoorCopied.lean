/- What a copy tells. -/
import Derived.Test.YtmacobegnkmmcaaDoorNth
import Derived.Test.YtmacobegnkmmcaaDoorRow14
import Derived.Laws.AppendOwnNone
namespace Go.Proofs.YtmacobegnkmmcaaDoor
open Go.RowKit

theorem news_ints {k : IntKind} {w : World} {b o : Nat} {l : List Int} (h : ∀ i, i < l.length → w.cell? ⟨b, o + i, none⟩ = some (.int k (l.getD i 0))) : ∀ j u, (l.map (Value.int k))[j]? = some u → w.cell? ((⟨b, o, none⟩ : Addr).add j) = some u := by
  intro j u hj
  rw [List.getElem?_map, Option.map_eq_some_iff] at hj
  obtain ⟨x, hx, rfl⟩ := hj
  have hi := (List.getElem?_eq_some_iff.1 hx).1
  have := h j hi
  rw [List.getD_eq_getElem?_getD, hx] at this
  unfold Addr.add
  by_cases e : j = 0
  · subst e; rw [if_pos rfl]; exact this
  · rw [if_neg e]; exact this
theorem one_ints (k : IntKind) (l : List Int) : ∀ u ∈ l.map (Value.int k), u.oneCell' = true := by
  intro u hu
  obtain ⟨x, _, rfl⟩ := List.mem_map.1 hu
  rfl

def Copied (E : TypeId) (k : IntKind) (l : List Int) (w : World) (e : Ending) (w' : World) : Prop :=
  ∃ v, e = .returned v ∧ w'.ownsRow w.heap.size E 1 v l.length (l.map (Value.int k)) ∧ Ext w w'

end Go.Proofs.YtmacobegnkmmcaaDoor
