/- The argument of WitnessExact, read: an automaton, labels, pairs. -/
import Derived.Test.YtpeipjfmibjoiaaDoorLaw
import Derived.Test.YtpeipjfmibjoiaaDoorArgDs
import Derived.OpenShut
namespace Go.Proofs.YtpeipjfmibjoiaaDoor
open Go.RowKit Go.ChangeShapes Go.WideShapes Go.ChangeAt

abbrev TwoAt (w : World) (b o : Nat) (p : Int × Int) : Prop := w.cell? ⟨b, o, none⟩ = some (.int .i64 p.1) ∧ w.cell? ⟨b, o + 1, none⟩ = some (.int .i64 p.2)

set_option maxRecDepth 100000 in
theorem read_pairs {H : Type} {enc : TypeId × Value → H} {W : World} {base fuel : Nat} {spare : Nat → Bool} {held : Bool} {cs : List Value} {x : DataW H × List MemPlace} (h : DataW.trod enc Tryd.prog W base spare held fuel 61 cs = some x) (hf : Fits 61 x.1) :
    ∃ v l, cs = [v] ∧ SliceV 2 TwoAt W v l := by
  obtain ⟨v, l, h1, h2, _, _⟩ := read_slice (R := TwoAt) (Q := fun _ => True) (size := 2) (bytes := 16) Tryd.underlying61 (by kernel_rfl) (by kernel_rfl) (by decide) (by decide) (fun n b o cs' y hcs hy _ => by
    obtain ⟨_, _, h5⟩ := World.cells?_some hcs
    have e0 := h5 0 (by decide)
    have e1 := h5 1 (by decide)
    obtain ⟨xs, m, _, _, h6, h7, h8⟩ := DataW.trod_array Tryd.underlying71 hy
    obtain ⟨c0, c1, rfl⟩ := len_two (h6.trans (by kernel_rfl))
    have k0 := h8 0 (by decide)
    have k1 := h8 1 (by decide)
    rw [show Tryd.prog.cellsOf _ = 1 by kernel_rfl] at k0 k1
    obtain ⟨y0, y1, rfl⟩ := len_two h7
    obtain ⟨z0, r0, _⟩ := read_int Tryd.underlying3 k0
    obtain ⟨z1, r1, _⟩ := read_int Tryd.underlying3 k1
    simp at r0 r1
    subst r0; subst r1
    exact ⟨(z0, z1), ⟨by simpa [Addr.add] using e0, by simpa [Addr.add] using e1⟩, trivial⟩) h hf
  exact ⟨v, l, h1, h2⟩

set_option maxRecDepth 100000 in
theorem arg_ask {H : Type} {enc : TypeId × Value → H} {W : World} {base : Nat} {v : Value} {d : DataW H} {p : List MemPlace} (hok : Value.okWide Tryd.prog W .any base 63 v)
    (h : DataW.Trod enc Tryd.prog W 0 (fun _ => true) true 63 v d p) (hfit : Fits 63 d) :
    ∃ vn vl v3 v4 dn ls ps, v = .agg #[vn, vl, v3, v4] ∧ DenseV W (.agg #[vn, vl]) dn ∧ Reach dn ∧ Ints W v3 ls ∧ SliceV 2 TwoAt W v4 ps := by
  have hu := Tryd.underlying63
  obtain ⟨cs, rfl, _⟩ := okWide_struct hu hok
  obtain ⟨fuel, hf⟩ := h
  obtain ⟨xs, n, _, hx, h1, h2, h3⟩ := DataW.trod_struct hu hf
  simp only [Prod.mk.injEq] at hx
  obtain ⟨rfl, rfl⟩ := hx
  obtain ⟨c0, c1, c2, c3, hcs⟩ := len_four (l := (Value.agg cs).cells.toList) (h1.trans (by kernel_rfl))
  obtain ⟨y0, y1, y2, rfl⟩ := len_three (h2.trans (show _ = 3 from rfl))
  rw [hcs] at h3
  obtain rfl : cs = #[c0, c1, c2, c3] := by
    apply Array.toList_inj.1
    exact hcs
  have e0 := h3 0 _ rfl
  have e1 := h3 1 _ rfl
  have e2 := h3 2 _ rfl
  rw [show Tryd.prog.cellsOf _ = 2 by kernel_rfl] at e0
  rw [show Tryd.prog.cellsOf _ = 1 by kernel_rfl] at e1 e2
  have f0 : Fits 25 y0.1 := Fits.field (j := 0) hu hfit rfl rfl
  have f1 : Fits 23 y1.1 := Fits.field (j := 1) hu hfit rfl rfl
  have f2 : Fits 61 y2.1 := Fits.field (j := 2) hu hfit rfl rfl
  obtain ⟨vn, vl, dn, g1, g2, g3, g4⟩ := read_dense e0 f0
  obtain ⟨v3, ls, j1, j2, _⟩ := read_ints (bytes := 8) Tryd.underlying23 Tryd.underlying3 (by kernel_rfl) (by kernel_rfl) (by decide) e1 f1
  obtain ⟨v4, ps, k1, k2⟩ := read_pairs e2 f2
  simp at g1 j1 k1
  obtain ⟨rfl, rfl⟩ := g1
  subst j1; subst k1
  exact ⟨_, _, _, _, dn, ls, ps, rfl, ⟨_, _, rfl, g2, g3⟩, g4.reach, j2, k2⟩
end Go.Proofs.YtpeipjfmibjoiaaDoor
