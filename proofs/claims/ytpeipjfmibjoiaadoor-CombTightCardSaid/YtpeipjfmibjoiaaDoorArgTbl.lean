/- A law's argument, read: a table. -/
import Derived.Test.YtpeipjfmibjoiaaDoorLaw
import Derived.Test.YtpeipjfmibjoiaaDoorRead
import Derived.Test.YtpeipjfmibjoiaaDoorTbl
namespace Go.Proofs.YtpeipjfmibjoiaaDoor
open Go.RowKit Go.ChangeShapes Go.WideShapes Go.ChangeAt

section
variable {H : Type} {enc : TypeId × Value → H} {W : World} {base fuel : Nat} {spare : Nat → Bool} {held : Bool} {cs : List Value} {x : DataW H × List MemPlace}
set_option maxRecDepth 100000 in
theorem read_tbl (h : DataW.trod enc Tryd.prog W base spare held fuel 37 cs = some x) (hf : Fits 37 x.1) :
    ∃ cv sv nv lv T, cs = [cv, .int .i64 T.count, sv, nv, lv] ∧ TblV W (.agg #[cv, .int .i64 T.count, sv, nv, lv]) T ∧ True := by
  have hu := Tryd.underlying37
  obtain ⟨xs, n, _, rfl, h1, h2, h3⟩ := DataW.trod_struct hu h
  obtain ⟨c0, c1, c2, c3, c4, rfl⟩ := len_five (h1.trans (by kernel_rfl))
  obtain ⟨y0, y1, y2, y3, y4, rfl⟩ := len_five (h2.trans (show _ = 5 from rfl))
  have e0 := h3 0 _ rfl
  have e1 := h3 1 _ rfl
  have e2 := h3 2 _ rfl
  have e3 := h3 3 _ rfl
  have e4 := h3 4 _ rfl
  rw [show Tryd.prog.cellsOf _ = 1 by kernel_rfl] at e0 e1 e2 e3 e4
  have f0 : Fits 23 y0.1 := Fits.field (j := 0) hu hf rfl rfl
  have f2 : Fits 23 y2.1 := Fits.field (j := 2) hu hf rfl rfl
  have f3 : Fits 22 y3.1 := Fits.field (j := 3) hu hf rfl rfl
  have f4 : Fits 23 y4.1 := Fits.field (j := 4) hu hf rfl rfl
  obtain ⟨v0, l0, g0, i0, _, j0⟩ := read_ints (bytes := 8) Tryd.underlying23 Tryd.underlying3 (by kernel_rfl) (by kernel_rfl) (by decide) e0 f0
  obtain ⟨k, g1, _, _⟩ := read_int Tryd.underlying3 e1
  obtain ⟨v2, l2, g2, i2, _, j2⟩ := read_ints (bytes := 8) Tryd.underlying23 Tryd.underlying3 (by kernel_rfl) (by kernel_rfl) (by decide) e2 f2
  obtain ⟨v3, l3, g3, i3, q3, j3⟩ := read_rows (bytes := 24) (bytes' := 8) Tryd.underlying22 Tryd.underlying23 Tryd.underlying3 (by kernel_rfl) (by kernel_rfl) (by kernel_rfl) (by kernel_rfl) (by decide) (by decide) e3 f3
  obtain ⟨v4, l4, g4, i4, _, j4⟩ := read_ints (bytes := 8) Tryd.underlying23 Tryd.underlying3 (by kernel_rfl) (by kernel_rfl) (by decide) e4 f4
  simp at g0 g1 g2 g3 g4
  subst g0; subst g1; subst g2; subst g3; subst g4
  exact ⟨_, _, _, _, ⟨l0, k, l2, l3, l4⟩, rfl, ⟨_, _, _, _, rfl, i0, i2, i3, i4⟩, trivial⟩


end

set_option maxRecDepth 100000 in
theorem arg_tbl {H : Type} {enc : TypeId × Value → H} {W : World} {base : Nat} {v : Value} {d : DataW H} {p : List MemPlace} (hok : Value.okWide Tryd.prog W .any base 37 v)
    (h : DataW.Trod enc Tryd.prog W 0 (fun _ => true) true 37 v d p) (hfit : Fits 37 d) : ∃ T, TblV W v T := by
  have hu := Tryd.underlying37
  obtain ⟨cs, rfl, _⟩ := okWide_struct hu hok
  obtain ⟨fuel, hf⟩ := h
  obtain ⟨cv, sv, nv, lv, T, g1, g2, _⟩ := read_tbl hf hfit
  obtain rfl : cs = #[cv, .int .i64 T.count, sv, nv, lv] := by
    apply Array.toList_inj.1
    exact g1
  exact ⟨T, g2⟩
end Go.Proofs.YtpeipjfmibjoiaaDoor
