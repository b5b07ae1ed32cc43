/- From what a row lists of package fault's variables to Sents; the arguments of RowsChecks, read. By mksentof.py. -/
import Derived.Test.YtngbaaiocoobdaaDoorLaw
import Derived.Test.YtngbaaiocoobdaaDoorSents
import Derived.Test.YtngbaaiocoobdaaDoorChecksLaw
namespace Go.Proofs.YtngbaaiocoobdaaDoor
open Go.RowKit Go.ChangeShapes Go.WideShapes Go.ChangeAt

theorem so_star : "*" ++ "errors.errorString" = "*errors.errorString" := by decide
theorem so_row (u : TypeId) (h : Tryd.prog.typeName? 3 u = some "*errors.errorString") : u = 196 :=
  typeName_ptr_named (nm := "errors.errorString") (by rw [so_star]; kernel_rfl) (by kernel_rfl) (by decide) u (by rw [so_star]; exact h)
theorem so_rt : (Tryd.prog.cutTypes.find? (·.1 == "internal/reflectlite.rtype")).map (·.2) = some 181 := by kernel_rfl
theorem so_one : ((List.range Tryd.prog.types.size).filter fun t => Tryd.prog.rowNamed t [101, 114, 114, 111, 114]) = [41] := by kernel_rfl

def sentL : List (String × DataW Unit) := [("bolter/fault.ErrLong", Rows.laid_bolter_fault_ErrLong), ("bolter/fault.ErrSyntax", Rows.laid_bolter_fault_ErrSyntax), ("bolter/fault.ErrDeep", Rows.laid_bolter_fault_ErrDeep), ("bolter/fault.ErrMany", Rows.laid_bolter_fault_ErrMany), ("bolter/fault.ErrName", Rows.laid_bolter_fault_ErrName), ("bolter/fault.ErrDefCycle", Rows.laid_bolter_fault_ErrDefCycle), ("bolter/fault.ErrRepeat", Rows.laid_bolter_fault_ErrRepeat), ("bolter/fault.ErrTooManyPositions", Rows.laid_bolter_fault_ErrTooManyPositions), ("bolter/fault.ErrTrail", Rows.laid_bolter_fault_ErrTrail), ("bolter/fault.ErrTooManyStates", Rows.laid_bolter_fault_ErrTooManyStates), ("bolter/fault.ErrImage", Rows.laid_bolter_fault_ErrImage), ("bolter/fault.ErrModeStack", Rows.laid_bolter_fault_ErrModeStack), ("bolter/fault.ErrClosed", Rows.laid_bolter_fault_ErrClosed), ("bolter/fault.ErrArg", Rows.laid_bolter_fault_ErrArg), ("bolter/fault.ErrCommand", Rows.laid_bolter_fault_ErrCommand), ("bolter/fault.ErrHandle", Rows.laid_bolter_fault_ErrHandle)]
theorem so_all : ∀ x ∈ sentL, ∃ text g, x.2 = .iface "*errors.errorString" (.ptr (.agg [.lit (.string text)])) ∧ Tryd.prog.globalNamed x.1 = some g ∧ (Tryd.prog.globals[g]?).map (·.type) = some 41 := by
  intro x hx
  simp only [sentL, List.mem_cons, List.not_mem_nil, or_false] at hx
  rcases hx with rfl | rfl | rfl | rfl | rfl | rfl | rfl | rfl | rfl | rfl | rfl | rfl | rfl | rfl | rfl | rfl
  · exact ⟨_, 2, rfl, by kernel_rfl, by kernel_rfl⟩
  · exact ⟨_, 3, rfl, by kernel_rfl, by kernel_rfl⟩
  · exact ⟨_, 4, rfl, by kernel_rfl, by kernel_rfl⟩
  · exact ⟨_, 5, rfl, by kernel_rfl, by kernel_rfl⟩
  · exact ⟨_, 6, rfl, by kernel_rfl, by kernel_rfl⟩
  · exact ⟨_, 7, rfl, by kernel_rfl, by kernel_rfl⟩
  · exact ⟨_, 8, rfl, by kernel_rfl, by kernel_rfl⟩
  · exact ⟨_, 9, rfl, by kernel_rfl, by kernel_rfl⟩
  · exact ⟨_, 10, rfl, by kernel_rfl, by kernel_rfl⟩
  · exact ⟨_, 11, rfl, by kernel_rfl, by kernel_rfl⟩
  · exact ⟨_, 12, rfl, by kernel_rfl, by kernel_rfl⟩
  · exact ⟨_, 13, rfl, by kernel_rfl, by kernel_rfl⟩
  · exact ⟨_, 14, rfl, by kernel_rfl, by kernel_rfl⟩
  · exact ⟨_, 0, rfl, by kernel_rfl, by kernel_rfl⟩
  · exact ⟨_, 15, rfl, by kernel_rfl, by kernel_rfl⟩
  · exact ⟨_, 16, rfl, by kernel_rfl, by kernel_rfl⟩

theorem sents_of {W : World} (h : laidMetH Tryd.prog (("errors.errorType", Rows.laid_errors_errorType) :: sentL) W) : ∃ a, Sents W a := by
  have h' : laidMet Tryd.prog sentL W ∧ handlesMet Tryd.prog [("errors.errorType", Rows.laid_errors_errorType)] W := h
  obtain ⟨ps, hl, hnd, hrows⟩ := h'.1
  obtain ⟨f, hf, hne⟩ := sents_all Tryd.underlying41 so_row Tryd.underlying196 Tryd.underlying218 rfl rfl Tryd.underlying9 (by kernel_rfl) (by kernel_rfl) sentL ps hl hnd hrows so_all
  refine ⟨fun c => f (c - 2), ⟨?_, fun c h1 h2 => ?_, fun c h1 h2 => ?_, fun c d h1 h2 h3 => hne (c - 2) (d - 2) (by omega) (by show d - 2 < 16; omega)⟩⟩
  · obtain ⟨name, u, ty, e1, e2, e3, e4, e5⟩ := h'.2 _ (List.mem_singleton.2 rfl)
    have en : name = [101, 114, 114, 111, 114] := (Option.some.inj e1).symm
    subst en
    obtain rfl := Option.some.inj (so_rt.symm.trans e2)
    have hm : ty ∈ (List.range Tryd.prog.types.size).filter fun t => Tryd.prog.rowNamed t [101, 114, 114, 111, 114] := List.mem_filter.2 ⟨List.mem_range.2 e3, e4⟩
    rw [so_one] at hm
    obtain rfl := List.mem_singleton.1 hm
    have hh : typeHandle Tryd.prog 41 = .pointer (some ⟨17, 41, none⟩) := by kernel_rfl
    rw [hh] at e5
    simpa using World.var?_cell (show Tryd.prog.globalNamed "errors.errorType" = some 1 by kernel_rfl) e5 0
  · have hg := gl_of c h1 h2
    rcases hg with ⟨rfl, hg⟩ | ⟨rfl, hg⟩ | ⟨rfl, hg⟩ | ⟨rfl, hg⟩ | ⟨rfl, hg⟩ | ⟨rfl, hg⟩ | ⟨rfl, hg⟩ | ⟨rfl, hg⟩ | ⟨rfl, hg⟩ | ⟨rfl, hg⟩ | ⟨rfl, hg⟩ | ⟨rfl, hg⟩ | ⟨rfl, hg⟩ | ⟨rfl, hg⟩ | ⟨rfl, hg⟩ | ⟨rfl, hg⟩
    · rw [hg]; simpa using World.var?_cell (show Tryd.prog.globalNamed "bolter/fault.ErrLong" = some 2 by kernel_rfl) (hf 0 _ rfl).1 0
    · rw [hg]; simpa using World.var?_cell (show Tryd.prog.globalNamed "bolter/fault.ErrSyntax" = some 3 by kernel_rfl) (hf 1 _ rfl).1 0
    · rw [hg]; simpa using World.var?_cell (show Tryd.prog.globalNamed "bolter/fault.ErrDeep" = some 4 by kernel_rfl) (hf 2 _ rfl).1 0
    · rw [hg]; simpa using World.var?_cell (show Tryd.prog.globalNamed "bolter/fault.ErrMany" = some 5 by kernel_rfl) (hf 3 _ rfl).1 0
    · rw [hg]; simpa using World.var?_cell (show Tryd.prog.globalNamed "bolter/fault.ErrName" = some 6 by kernel_rfl) (hf 4 _ rfl).1 0
    · rw [hg]; simpa using World.var?_cell (show Tryd.prog.globalNamed "bolter/fault.ErrDefCycle" = some 7 by kernel_rfl) (hf 5 _ rfl).1 0
    · rw [hg]; simpa using World.var?_cell (show Tryd.prog.globalNamed "bolter/fault.ErrRepeat" = some 8 by kernel_rfl) (hf 6 _ rfl).1 0
    · rw [hg]; simpa using World.var?_cell (show Tryd.prog.globalNamed "bolter/fault.ErrTooManyPositions" = some 9 by kernel_rfl) (hf 7 _ rfl).1 0
    · rw [hg]; simpa using World.var?_cell (show Tryd.prog.globalNamed "bolter/fault.ErrTrail" = some 10 by kernel_rfl) (hf 8 _ rfl).1 0
    · rw [hg]; simpa using World.var?_cell (show Tryd.prog.globalNamed "bolter/fault.ErrTooManyStates" = some 11 by kernel_rfl) (hf 9 _ rfl).1 0
    · rw [hg]; simpa using World.var?_cell (show Tryd.prog.globalNamed "bolter/fault.ErrImage" = some 12 by kernel_rfl) (hf 10 _ rfl).1 0
    · rw [hg]; simpa using World.var?_cell (show Tryd.prog.globalNamed "bolter/fault.ErrModeStack" = some 13 by kernel_rfl) (hf 11 _ rfl).1 0
    · rw [hg]; simpa using World.var?_cell (show Tryd.prog.globalNamed "bolter/fault.ErrClosed" = some 14 by kernel_rfl) (hf 12 _ rfl).1 0
    · rw [hg]; simpa using World.var?_cell (show Tryd.prog.globalNamed "bolter/fault.ErrArg" = some 0 by kernel_rfl) (hf 13 _ rfl).1 0
    · rw [hg]; simpa using World.var?_cell (show Tryd.prog.globalNamed "bolter/fault.ErrCommand" = some 15 by kernel_rfl) (hf 14 _ rfl).1 0
    · rw [hg]; simpa using World.var?_cell (show Tryd.prog.globalNamed "bolter/fault.ErrHandle" = some 16 by kernel_rfl) (hf 15 _ rfl).1 0
  · have hi : c - 2 < sentL.length := by show c - 2 < 16; omega
    exact (hf (c - 2) _ (List.getElem?_eq_getElem hi)).2.2

section
variable {H : Type} {enc : TypeId × Value → H} {W : World} {base fuel : Nat} {spare : Nat → Bool} {held : Bool} {cs : List Value} {x : DataW H × List MemPlace}
set_option maxRecDepth 100000 in
theorem read_tbl (h : DataW.trod enc Tryd.prog W base spare held fuel 39 cs = some x) (hf : Fits 39 x.1) :
    ∃ cv sv nv lv T, cs = [cv, .int .i64 T.count, sv, nv, lv] ∧ TblV W (.agg #[cv, .int .i64 T.count, sv, nv, lv]) T ∧ TblFits T := by
  have hu := Tryd.underlying39
  obtain ⟨xs, n, _, rfl, h1, h2, h3⟩ := DataW.trod_struct hu h
  obtain ⟨c0, c1, c2, c3, c4, rfl⟩ := len_five (h1.trans (by kernel_rfl))
  obtain ⟨y0, y1, y2, y3, y4, rfl⟩ := len_five (h2.trans (show _ = 5 from rfl))
  have e0 := h3 0 _ rfl
  have e1 := h3 1 _ rfl
  have e2 := h3 2 _ rfl
  have e3 := h3 3 _ rfl
  have e4 := h3 4 _ rfl
  rw [show Tryd.prog.cellsOf _ = 1 by kernel_rfl] at e0 e1 e2 e3 e4
  have f0 : Fits 23 y0.1 := Fits.field (j := 0) hu hf rfl rfl
  have f2 : Fits 23 y2.1 := Fits.field (j := 2) hu hf rfl rfl
  have f3 : Fits 22 y3.1 := Fits.field (j := 3) hu hf rfl rfl
  have f4 : Fits 23 y4.1 := Fits.field (j := 4) hu hf rfl rfl
  obtain ⟨v0, l0, g0, i0, _, j0⟩ := read_ints (bytes := 8) Tryd.underlying23 Tryd.underlying3 (by kernel_rfl) (by kernel_rfl) (by decide) e0 f0
  obtain ⟨k, g1, _, _⟩ := read_int Tryd.underlying3 e1
  obtain ⟨v2, l2, g2, i2, _, j2⟩ := read_ints (bytes := 8) Tryd.underlying23 Tryd.underlying3 (by kernel_rfl) (by kernel_rfl) (by decide) e2 f2
  obtain ⟨v3, l3, g3, i3, q3, j3⟩ := read_rows (bytes := 24) (bytes' := 8) Tryd.underlying22 Tryd.underlying23 Tryd.underlying3 (by kernel_rfl) (by kernel_rfl) (by kernel_rfl) (by kernel_rfl) (by decide) (by decide) e3 f3
  obtain ⟨v4, l4, g4, i4, _, j4⟩ := read_ints (bytes := 8) Tryd.underlying23 Tryd.underlying3 (by kernel_rfl) (by kernel_rfl) (by decide) e4 f4
  simp at g0 g1 g2 g3 g4
  subst g0; subst g1; subst g2; subst g3; subst g4
  exact ⟨_, _, _, _, ⟨l0, k, l2, l3, l4⟩, rfl, ⟨_, _, _, _, rfl, i0, i2, i3, i4⟩, ⟨by show l0.length * 8 ≤ _; omega, by show l2.length * 8 ≤ _; omega, by show l3.length * 24 ≤ _; omega, fun r hr => by have := (q3 r hr).2; omega, by show l4.length * 8 ≤ _; omega⟩⟩

set_option maxRecDepth 100000 in
theorem read_tbls (h : DataW.trod enc Tryd.prog W base spare held fuel 77 cs = some x) (hf : Fits 77 x.1) : ∃ v l, cs = [v] ∧ TblsV W v l ∧ ∀ T ∈ l, TblFits T := by
  obtain ⟨v, l, h1, h2, h3, _⟩ := read_slice (R := TblAt) (Q := TblFits) (size := 5) (bytes := 104) Tryd.underlying77 (by kernel_rfl) (by kernel_rfl) (by decide) (by decide) (fun n b o cs' y hcs hy hfy => by
    obtain ⟨cv, sv, nv, lv, T, rfl, r1, r2⟩ := read_tbl hy hfy
    obtain ⟨_, _, h5⟩ := World.cells?_some hcs
    have e0 := h5 0 (by decide)
    have e1 := h5 1 (by decide)
    have e2 := h5 2 (by decide)
    have e3 := h5 3 (by decide)
    have e4 := h5 4 (by decide)
    exact ⟨T, ⟨cv, sv, nv, lv, by simpa [Addr.add] using e0, by simpa [Addr.add] using e1, by simpa [Addr.add] using e2, by simpa [Addr.add] using e3, by simpa [Addr.add] using e4, r1⟩, r2⟩) h hf
  exact ⟨v, l, h1, h2, h3⟩
end

set_option maxRecDepth 100000 in
theorem arg_raw15 {H : Type} {enc : TypeId × Value → H} {W : World} {base : Nat} {v : Value} {d : DataW H} {p : List MemPlace} (hok : Value.okWide Tryd.prog W .any base 79 v)
    (h : DataW.Trod enc Tryd.prog W 0 (fun _ => true) true 79 v d p) (hfit : Fits 79 d) :
    ∃ v1 v2 v3 l ss bs, v = .agg #[v1, v2, v3] ∧ TblsV W v1 l ∧ (∀ T ∈ l, TblFits T) ∧ Ints W v2 ss ∧ IntsK .u8 W v3 bs ∧ ∀ z ∈ bs, 0 ≤ z ∧ z ≤ 255 := by
  have hu := Tryd.underlying79
  obtain ⟨cs, rfl, _⟩ := okWide_struct hu hok
  obtain ⟨fuel, hf⟩ := h
  obtain ⟨xs, n, _, hx, h1, h2, h3⟩ := DataW.trod_struct hu hf
  simp only [Prod.mk.injEq] at hx
  obtain ⟨rfl, rfl⟩ := hx
  obtain ⟨c0, c1, c2, hcs⟩ := len_three (l := (Value.agg cs).cells.toList) (h1.trans (by kernel_rfl))
  obtain ⟨y0, y1, y2, rfl⟩ := len_three (h2.trans (show _ = 3 from rfl))
  rw [hcs] at h3
  obtain rfl : cs = #[c0, c1, c2] := by
    apply Array.toList_inj.1
    exact hcs
  have e0 := h3 0 _ rfl
  have e1 := h3 1 _ rfl
  have e2 := h3 2 _ rfl
  rw [show Tryd.prog.cellsOf _ = 1 by kernel_rfl] at e0 e1 e2
  have f0 : Fits 77 y0.1 := Fits.field (j := 0) hu hfit rfl rfl
  have f1 : Fits 23 y1.1 := Fits.field (j := 1) hu hfit rfl rfl
  have f2 : Fits 28 y2.1 := Fits.field (j := 2) hu hfit rfl rfl
  obtain ⟨v1, l, g1, i1, i1'⟩ := read_tbls e0 f0
  obtain ⟨v2, ss, g2, i2, _, _⟩ := read_ints (bytes := 8) Tryd.underlying23 Tryd.underlying3 (by kernel_rfl) (by kernel_rfl) (by decide) e1 f1
  obtain ⟨v3, bs, g3, i3, q3, _⟩ := read_ints (bytes := 1) Tryd.underlying28 Tryd.underlying5 (by kernel_rfl) (by kernel_rfl) (by decide) e2 f2
  simp at g1 g2 g3
  subst g1; subst g2; subst g3
  exact ⟨_, _, _, l, ss, bs, rfl, i1, i1', i2, i3, fun z hz => q3 z hz⟩

/- ---- a world for the witness: errors.errorType's cell laid, then the sentinels ---- -/
noncomputable def sentBase (os : Os) : World :=
  { World.holding Tryd.prog os ⟨#[], #[], []⟩ with heap := (World.holding Tryd.prog os ⟨#[], #[], []⟩).heap.modify 1 fun
      | .cells _ t frozen => .cells #[.iface 181 (.agg #[.pointer (some ⟨17, 41, none⟩)])] t frozen
      | o => o }
noncomputable def sentWorld (os : Os) : World := (sentBase os).layVars Tryd.prog sentL
theorem sentWorld_os (os : Os) : (sentWorld os).os = os := World.layVars_os _ _ _
theorem sentWorld_met (os : Os) (args : Array Value) : laidMetH Tryd.prog (("errors.errorType", Rows.laid_errors_errorType) :: sentL) ((sentWorld os).forCall (fun _ _ => 0) ⟨#[], args, []⟩).memory := by
  refine laidMetH_of_parts ?_ (by kernel_rfl)
  show laidMet Tryd.prog sentL _
  have e1 : (sentL.filter fun x => (sentL.map (·.1)).contains x.1) = sentL := List.filter_eq_self.2 fun x hx => List.contains_iff_mem.2 (List.mem_map.2 ⟨x, hx, rfl⟩)
  have e2 : (sentL.filter fun x => !(sentL.map (·.1)).contains x.1) = [] := List.filter_eq_nil_iff.2 fun x hx => by rw [List.contains_iff_mem.2 (List.mem_map.2 ⟨x, hx, rfl⟩)]; simp
  have h : laidMet Tryd.prog sentL (sentWorld os) := laidMet_layVars (w0 := sentBase os) (sentL.map (·.1)) [] (by rw [e1]; rfl) (by rw [e1]; kernel_rfl) (by rw [e1]; kernel_rfl) (by rw [e2]; exact LaidIn.none)
  exact h.of_heap (by simp [World.memory, World.forCall, Input.heap])
theorem witness_sent {H : Type} {enc : TypeId × Value → H} {os : Os} {f : FuncId} {fn : Func} {s : OpenSpec} {conds : List PathCond} {apart : Bool} {laid : List (String × DataW Unit)} (args : Array Value)
    (hz : ((sentWorld os).forCall (fun _ _ => 0) ⟨#[], args, []⟩).variablesZipB Tryd.prog = true)
    (hr : (((sentWorld os).forCall (fun _ _ => 0) ⟨#[], args, []⟩).heap.toList.drop Tryd.prog.globals.size).take ((begin Tryd.prog (fun _ _ => 0) default).world.heap.size - Tryd.prog.globals.size) =
      (begin Tryd.prog (fun _ _ => 0) default).world.heap.toList.drop Tryd.prog.globals.size)
    (hok : Input.okWideB Tryd.prog ((sentWorld os).forCall (fun _ _ => 0) ⟨#[], args, []⟩) f ⟨#[], args, []⟩ = true)
    (hrow : s.preRow enc Tryd.prog fn conds apart laid ((sentWorld os).forCall (fun _ _ => 0) ⟨#[], args, []⟩).memory args) :
    ∃ (w : World) (tape : Tape) (i : Input), w.os = os ∧ (w.forCall tape i).Shaped Tryd.checked.prog ∧ i.vars = [] ∧ Input.okWide Tryd.checked.prog (w.forCall tape i) .any w.heap.size f i ∧
      s.preRow enc Tryd.checked.prog fn conds apart laid (w.forCall tape i).memory i.args ∧ ({ modest := false } : Assume).holds Tryd.checked.prog (lone (Frame.enter Tryd.checked.prog f i.args .normal) [] (w.forCall tape i)) :=
  ⟨sentWorld os, fun _ _ => 0, ⟨#[], args, []⟩, sentWorld_os _, World.shaped_of_ZipB hz hr, (Input.okWide_of_okWideB (base := 0) hok).1, (Input.okWide_of_okWideB hok).2, hrow, by
    simp only [Assume.holds]
    exact ⟨by simp, by simp, fun _ => Modest.zero, by simp, by simp⟩⟩
end Go.Proofs.YtngbaaiocoobdaaDoor
