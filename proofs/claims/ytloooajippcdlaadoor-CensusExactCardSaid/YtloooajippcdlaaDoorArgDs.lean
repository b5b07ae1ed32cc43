/- A law's argument, read: a list of automata, each within reach. -/
import Derived.Test.YtloooajippcdlaaDoorLaw
import Derived.Test.YtloooajippcdlaaDoorDenses
import Derived.Test.YtloooajippcdlaaDoorOwn
namespace Go.Proofs.YtloooajippcdlaaDoor
open Go.RowKit Go.ChangeShapes Go.WideShapes Go.ChangeAt

theorem DnFits.reach {d : Dn} (h : DnFits d) : Reach d := ⟨by have := h.rows; omega, fun l hl => by have := (h.row l hl).2; omega, by have := h.labels; omega⟩

set_option maxRecDepth 100000 in
theorem read_densesR {H : Type} {enc : TypeId × Value → H} {W : World} {base fuel : Nat} {spare : Nat → Bool} {held : Bool} {cs : List Value} {x : DataW H × List MemPlace} (h : DataW.trod enc Tryd.prog W base spare held fuel 44 cs = some x) (hf : Fits 44 x.1) :
    ∃ v l, cs = [v] ∧ DensesV W v l ∧ ∀ d ∈ l, Reach d := by
  obtain ⟨v, l, h1, h2, h3, _⟩ := read_slice (R := DenseAt) (Q := DnFits) (size := 2) (bytes := 48) Tryd.underlying44 (by kernel_rfl) (by kernel_rfl) (by decide) (by decide) (fun n b o cs' y hcs hy hfy => by
    obtain ⟨vn, vl, d, rfl, r1, r2, r3⟩ := read_dense hy hfy
    obtain ⟨_, _, h5⟩ := World.cells?_some hcs
    have e0 := h5 0 (by decide)
    have e1 := h5 1 (by decide)
    exact ⟨d, ⟨⟨vn, by simpa [Addr.add] using e0, r1⟩, ⟨vl, by simpa [Addr.add] using e1, r2⟩⟩, r3⟩) h hf
  exact ⟨v, l, h1, h2, fun d hd => (h3 d hd).reach⟩

set_option maxRecDepth 100000 in
theorem arg_densesR {H : Type} {enc : TypeId × Value → H} {W : World} {base : Nat} {v : Value} {d : DataW H} {p : List MemPlace} (hok : Value.okWide Tryd.prog W .any base 44 v)
    (h : DataW.Trod enc Tryd.prog W 0 (fun _ => true) true 44 v d p) (hfit : Fits 44 d) : ∃ l, DensesV W v l ∧ ∀ d ∈ l, Reach d := by
  obtain ⟨a, len, cap, rfl⟩ := okWide_slice Tryd.underlying44 hok
  obtain ⟨fuel, hf⟩ := h
  obtain ⟨v', l, g1, g2, g3⟩ := read_densesR hf hfit
  simp [Value.cells] at g1
  subst g1
  exact ⟨l, g2, g3⟩
end Go.Proofs.YtloooajippcdlaaDoor
