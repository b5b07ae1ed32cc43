/- Texts, read from an argument. -/
import Derived.Test.YtloooajippcdlaaDoorBytesW
namespace Go.Proofs.YtloooajippcdlaaDoor
open Go.RowKit

/-- texts, as numbers -/
abbrev TextsV (w : World) (v : Value) (l : List (List Int)) : Prop := SliceV 1 (SliceAt 1 (IntAt .u8)) w v l

theorem TextsV.open {w : World} {v : Value} {l : List (List Int)} (h : TextsV w v l) :
    l.length ≤ 140737488355328 ∧ ∃ a cap, v = .slice a l.length cap ∧ (0 < l.length → ∃ b o, a = some ⟨b, o, none⟩ ∧ ∀ i, i < l.length → ∃ r, w.cell? ⟨b, o + i, none⟩ = some r ∧ IntsK .u8 w r (l.getD i [])) := by
  obtain ⟨h1, a, cap, h2, hc, h3⟩ := h
  refine ⟨h1, a, cap, h2, fun h => ?_⟩
  obtain ⟨b, o, h4, h5⟩ := h3 h
  refine ⟨b, o, h4, fun i hi => ?_⟩
  have := h5 i _ (List.getElem?_eq_getElem hi)
  rw [Nat.mul_one] at this
  rw [List.getD_eq_getElem?_getD, List.getElem?_eq_getElem hi]
  exact this

theorem bytes_nat {t : List Int} (h : ∀ z ∈ t, 0 ≤ z ∧ z ≤ 255) : t = (t.map Int.toNat).map (fun (b : Nat) => (b : Int)) ∧ ∀ c ∈ t.map Int.toNat, c < 256 := by
  constructor
  · rw [List.map_map]
    conv => lhs; rw [← List.map_id t]
    refine List.map_congr_left fun z hz => ?_
    have := h z hz
    simp; omega
  · intro c hc
    obtain ⟨z, hz, rfl⟩ := List.mem_map.1 hc
    have := h z hz
    omega
end Go.Proofs.YtloooajippcdlaaDoor
