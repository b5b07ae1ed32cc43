/- A law's argument, read: lists of lists of automata. -/
import Derived.Test.YtloooajippcdlaaDoorLaw
import Derived.Test.YtloooajippcdlaaDoorArgDs
namespace Go.Proofs.YtloooajippcdlaaDoor
open Go.RowKit Go.ChangeShapes Go.WideShapes Go.ChangeAt

/-- a list's header stands here -/
def DssAt (w : World) (b o : Nat) (l : List Dn) : Prop := ∃ v, w.cell? ⟨b, o, none⟩ = some v ∧ DensesV w v l

set_option maxRecDepth 100000 in
theorem arg_dss {H : Type} {enc : TypeId × Value → H} {W : World} {base : Nat} {v : Value} {d : DataW H} {p : List MemPlace} (hok : Value.okWide Tryd.prog W .any base 63 v)
    (h : DataW.Trod enc Tryd.prog W 0 (fun _ => true) true 63 v d p) (hfit : Fits 63 d) : ∃ ls, SliceV 1 DssAt W v ls ∧ ∀ l ∈ ls, ∀ d ∈ l, Reach d := by
  obtain ⟨a, len, cap, rfl⟩ := okWide_slice Tryd.underlying63 hok
  obtain ⟨fuel, hf⟩ := h
  obtain ⟨v', ls, g1, g2, g3, _⟩ := read_slice (R := DssAt) (Q := fun l => ∀ d ∈ l, Reach d) (size := 1) (bytes := 24) Tryd.underlying63 (by kernel_rfl) (by kernel_rfl) (by decide) (by decide) (fun n b o cs' y hcs hy hfy => by
    obtain ⟨v1, l, rfl, r2, r3⟩ := read_densesR hy hfy
    obtain ⟨_, _, h5⟩ := World.cells?_some hcs
    have e0 := h5 0 (by decide)
    exact ⟨l, ⟨v1, by simpa [Addr.add] using e0, r2⟩, r3⟩) hf hfit
  simp [Value.cells] at g1
  subst g1
  exact ⟨ls, g2, g3⟩
end Go.Proofs.YtloooajippcdlaaDoor
