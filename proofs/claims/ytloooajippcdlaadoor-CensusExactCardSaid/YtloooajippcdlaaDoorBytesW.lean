/- Bytes as numbers. -/
import Derived.Test.YtloooajippcdlaaDoorEqs
namespace Go.Proofs.YtloooajippcdlaaDoor
open Go.RowKit

/-- a slice of bytes, as numbers -/
abbrev BytesW (w : World) (v : Value) (l : List Nat) : Prop := IntsK .u8 w v (l.map fun (b : Nat) => (b : Int))

theorem bytes_getD (l : List Nat) (i : Nat) : (l.map fun (b : Nat) => (b : Int)).getD i 0 = ((l.getD i 0 : Nat) : Int) := by
  rw [List.getD_eq_getElem?_getD, List.getElem?_map, List.getD_eq_getElem?_getD]
  cases l[i]? <;> rfl

theorem BytesW.open' {w : World} {v : Value} {l : List Nat} (h : BytesW w v l) :
    l.length ≤ 140737488355328 ∧ ∃ a cap, v = .slice a l.length cap ∧ (l.length ≤ cap ∧ (a = none → cap = 0)) ∧ (0 < l.length → ∃ b o, a = some ⟨b, o, none⟩ ∧ ∀ i, i < l.length → w.cell? ⟨b, o + i, none⟩ = some (.int .u8 (l.getD i 0 : Nat))) := by
  obtain ⟨h1, a, cap, h2, h3, h4⟩ := h.open
  rw [List.length_map] at h1 h2 h3 h4
  refine ⟨h1, a, cap, h2, h3, fun h0 => ?_⟩
  obtain ⟨b, o, h5, h6⟩ := h4 h0
  exact ⟨b, o, h5, fun i hi => by rw [h6 i hi, bytes_getD]⟩

theorem getD_lt {l : List Nat} (h : ∀ c ∈ l, c < 256) {i : Nat} (hi : i < l.length) : l.getD i 0 < 256 := by
  rw [List.getD_eq_getElem?_getD, List.getElem?_eq_getElem hi]
  exact h _ (List.getElem_mem _)
theorem take_snoc {l : List Nat} {i : Nat} (h : i < l.length) : l.take (i + 1) = l.take i ++ [l.getD i 0] := by
  rw [List.take_succ_eq_append_getElem h, List.getD_eq_getElem?_getD, List.getElem?_eq_getElem h]; rfl
end Go.Proofs.YtloooajippcdlaaDoor
