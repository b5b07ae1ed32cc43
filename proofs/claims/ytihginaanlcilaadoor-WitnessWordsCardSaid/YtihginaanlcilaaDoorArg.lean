/- A law's argument, read: an automaton. -/
import Derived.Test.YtihginaanlcilaaDoorLaw
namespace Go.Proofs.YtihginaanlcilaaDoor
open Go.RowKit Go.ChangeShapes Go.WideShapes Go.ChangeAt

set_option maxRecDepth 100000 in
theorem arg_dense {H : Type} {enc : TypeId × Value → H} {W : World} {base : Nat} {v : Value} {d : DataW H} {p : List MemPlace} (hok : Value.okWide Tryd.prog W .any base 25 v)
    (h : DataW.Trod enc Tryd.prog W 0 (fun _ => true) true 25 v d p) (hfit : Fits 25 d) : ∃ dn, DenseV W v dn ∧ DnFits dn := by
  have hu := Tryd.underlying25
  obtain ⟨cs, rfl, _⟩ := okWide_struct hu hok
  obtain ⟨fuel, hf⟩ := h
  obtain ⟨vn, vl, dn, g1, g2, g3, g4⟩ := read_dense hf hfit
  obtain rfl : cs = #[vn, vl] := by
    apply Array.toList_inj.1
    exact g1
  exact ⟨dn, ⟨_, _, rfl, g2, g3⟩, g4⟩
end Go.Proofs.YtihginaanlcilaaDoor
