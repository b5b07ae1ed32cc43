/- Laws' arguments, read: a list of automata; automata and texts. -/
import Derived.Test.YtngbaaiocoobdaaDoorLaw
import Derived.Test.YtngbaaiocoobdaaDoorDenses
import Derived.Test.YtngbaaiocoobdaaDoorTexts
namespace Go.Proofs.YtngbaaiocoobdaaDoor
open Go.RowKit Go.ChangeShapes Go.WideShapes Go.ChangeAt

set_option maxRecDepth 100000 in
theorem read_denses {H : Type} {enc : TypeId × Value → H} {W : World} {base fuel : Nat} {spare : Nat → Bool} {held : Bool} {cs : List Value} {x : DataW H × List MemPlace} (h : DataW.trod enc Tryd.prog W base spare held fuel 36 cs = some x) (hf : Fits 36 x.1) :
    ∃ v l, cs = [v] ∧ DensesV W v l ∧ ∀ d ∈ l, DnFits d := by
  obtain ⟨v, l, h1, h2, h3, _⟩ := read_slice (R := DenseAt) (Q := DnFits) (size := 2) (bytes := 48) Tryd.underlying36 (by kernel_rfl) (by kernel_rfl) (by decide) (by decide) (fun n b o cs' y hcs hy hfy => by
    obtain ⟨vn, vl, d, rfl, r1, r2, r3⟩ := read_dense hy hfy
    obtain ⟨_, _, h5⟩ := World.cells?_some hcs
    have e0 := h5 0 (by decide)
    have e1 := h5 1 (by decide)
    exact ⟨d, ⟨⟨vn, by simpa [Addr.add] using e0, r1⟩, ⟨vl, by simpa [Addr.add] using e1, r2⟩⟩, r3⟩) h hf
  exact ⟨v, l, h1, h2, h3⟩

set_option maxRecDepth 100000 in
theorem arg_denses {H : Type} {enc : TypeId × Value → H} {W : World} {base : Nat} {v : Value} {d : DataW H} {p : List MemPlace} (hok : Value.okWide Tryd.prog W .any base 36 v)
    (h : DataW.Trod enc Tryd.prog W 0 (fun _ => true) true 36 v d p) (hfit : Fits 36 d) : ∃ l, DensesV W v l := by
  obtain ⟨a, len, cap, rfl⟩ := okWide_slice Tryd.underlying36 hok
  obtain ⟨fuel, hf⟩ := h
  obtain ⟨v', l, g1, g2, _⟩ := read_denses hf hfit
  simp [Value.cells] at g1
  subst g1
  exact ⟨l, g2⟩

set_option maxRecDepth 100000 in
theorem arg_texts {H : Type} {enc : TypeId × Value → H} {W : World} {base : Nat} {v : Value} {d : DataW H} {p : List MemPlace} (hok : Value.okWide Tryd.prog W .any base 47 v)
    (h : DataW.Trod enc Tryd.prog W 0 (fun _ => true) true 47 v d p) (hfit : Fits 47 d) : ∃ v1 v2 l ts, v = .agg #[v1, v2] ∧ DensesV W v1 l ∧ TextsV W v2 ts ∧ ∀ r ∈ ts, ∀ z ∈ r, 0 ≤ z ∧ z ≤ 255 := by
  have hu := Tryd.underlying47
  obtain ⟨cs, rfl, _⟩ := okWide_struct hu hok
  obtain ⟨fuel, hf⟩ := h
  obtain ⟨xs, n, _, hx, h1, h2, h3⟩ := DataW.trod_struct hu hf
  simp only [Prod.mk.injEq] at hx
  obtain ⟨rfl, rfl⟩ := hx
  obtain ⟨c0, c1, hcs⟩ := len_two (l := (Value.agg cs).cells.toList) (h1.trans (by kernel_rfl))
  obtain ⟨y0, y1, rfl⟩ := len_two (h2.trans (show _ = 2 from rfl))
  rw [hcs] at h3
  obtain rfl : cs = #[c0, c1] := by
    apply Array.toList_inj.1
    exact hcs
  have e0 := h3 0 _ rfl
  have e1 := h3 1 _ rfl
  rw [show Tryd.prog.cellsOf _ = 1 by kernel_rfl] at e0 e1
  have f0 : Fits 36 y0.1 := Fits.field (j := 0) hu hfit rfl rfl
  have f1 : Fits 45 y1.1 := Fits.field (j := 1) hu hfit rfl rfl
  obtain ⟨v1, l, g1, g2, _⟩ := read_denses e0 f0
  obtain ⟨vt, ts, j1, j2, j3, _⟩ := read_rows (bytes := 24) (bytes' := 1) Tryd.underlying45 Tryd.underlying28 Tryd.underlying5 (by kernel_rfl) (by kernel_rfl) (by kernel_rfl) (by kernel_rfl) (by decide) (by decide) e1 f1
  simp at g1 j1
  subst g1; subst j1
  exact ⟨_, _, l, ts, rfl, g2, j2, fun r hr z hz => (j3 r hr).1 z hz⟩
end Go.Proofs.YtngbaaiocoobdaaDoor
