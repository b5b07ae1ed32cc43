/- The argument of WitnessMore, read: automata, a number. -/
import Derived.Test.YtloooajippcdlaaDoorLaw
import Derived.Test.YtloooajippcdlaaDoorArgDs
namespace Go.Proofs.YtloooajippcdlaaDoor
open Go.RowKit Go.ChangeShapes Go.WideShapes Go.ChangeAt

set_option maxRecDepth 100000 in
theorem arg_many {H : Type} {enc : TypeId × Value → H} {W : World} {base : Nat} {v : Value} {d : DataW H} {p : List MemPlace} (hok : Value.okWide Tryd.prog W .any base 46 v)
    (h : DataW.Trod enc Tryd.prog W 0 (fun _ => true) true 46 v d p) (hfit : Fits 46 d) : ∃ v1 l r, v = .agg #[v1, .int .i64 r] ∧ DensesV W v1 l ∧ ∀ d ∈ l, Reach d := by
  have hu := Tryd.underlying46
  obtain ⟨cs, rfl, _⟩ := okWide_struct hu hok
  obtain ⟨fuel, hf⟩ := h
  obtain ⟨xs, n, _, hx, h1, h2, h3⟩ := DataW.trod_struct hu hf
  simp only [Prod.mk.injEq] at hx
  obtain ⟨rfl, rfl⟩ := hx
  obtain ⟨c0, c1, hcs⟩ := len_two (l := (Value.agg cs).cells.toList) (h1.trans (by kernel_rfl))
  obtain ⟨y0, y1, rfl⟩ := len_two (h2.trans (show _ = 2 from rfl))
  rw [hcs] at h3
  obtain rfl : cs = #[c0, c1] := by
    apply Array.toList_inj.1
    exact hcs
  have e0 := h3 0 _ rfl
  have e1 := h3 1 _ rfl
  rw [show Tryd.prog.cellsOf _ = 1 by kernel_rfl] at e0 e1
  have f0 : Fits 44 y0.1 := Fits.field (j := 0) hu hfit rfl rfl
  obtain ⟨v1, l, g1, g2, g3⟩ := read_densesR e0 f0
  obtain ⟨z, r0, _⟩ := read_int Tryd.underlying3 e1
  simp at g1 r0
  subst g1; subst r0
  exact ⟨_, l, _, rfl, g2, g3⟩
end Go.Proofs.YtloooajippcdlaaDoor
