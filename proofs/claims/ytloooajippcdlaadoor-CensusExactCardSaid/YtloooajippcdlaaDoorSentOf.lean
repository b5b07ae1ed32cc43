/- From what a row lists of package fault's variables to Sents . By mksentof.py. -/
import Derived.Test.YtloooajippcdlaaDoorLaw
import Derived.Test.YtloooajippcdlaaDoorSents
namespace Go.Proofs.YtloooajippcdlaaDoor
open Go.RowKit Go.ChangeShapes Go.WideShapes Go.ChangeAt

theorem so_star : "*" ++ "errors.errorString" = "*errors.errorString" := by decide
theorem so_row (u : TypeId) (h : Tryd.prog.typeName? 3 u = some "*errors.errorString") : u = 200 :=
  typeName_ptr_named (nm := "errors.errorString") (by rw [so_star]; kernel_rfl) (by kernel_rfl) (by decide) u (by rw [so_star]; exact h)
theorem so_rt : (Tryd.prog.cutTypes.find? (·.1 == "internal/reflectlite.rtype")).map (·.2) = some 185 := by kernel_rfl
theorem so_one : ((List.range Tryd.prog.types.size).filter fun t => Tryd.prog.rowNamed t [101, 114, 114, 111, 114]) = [48] := by kernel_rfl

def sentL : List (String × DataW Unit) := [("bolter/fault.ErrLong", Rows.laid_bolter_fault_ErrLong), ("bolter/fault.ErrSyntax", Rows.laid_bolter_fault_ErrSyntax), ("bolter/fault.ErrDeep", Rows.laid_bolter_fault_ErrDeep), ("bolter/fault.ErrMany", Rows.laid_bolter_fault_ErrMany), ("bolter/fault.ErrName", Rows.laid_bolter_fault_ErrName), ("bolter/fault.ErrDefCycle", Rows.laid_bolter_fault_ErrDefCycle), ("bolter/fault.ErrRepeat", Rows.laid_bolter_fault_ErrRepeat), ("bolter/fault.ErrTooManyPositions", Rows.laid_bolter_fault_ErrTooManyPositions), ("bolter/fault.ErrTrail", Rows.laid_bolter_fault_ErrTrail), ("bolter/fault.ErrTooManyStates", Rows.laid_bolter_fault_ErrTooManyStates), ("bolter/fault.ErrImage", Rows.laid_bolter_fault_ErrImage), ("bolter/fault.ErrModeStack", Rows.laid_bolter_fault_ErrModeStack), ("bolter/fault.ErrClosed", Rows.laid_bolter_fault_ErrClosed), ("bolter/fault.ErrArg", Rows.laid_bolter_fault_ErrArg), ("bolter/fault.ErrCommand", Rows.laid_bolter_fault_ErrCommand), ("bolter/fault.ErrHandle", Rows.laid_bolter_fault_ErrHandle)]
theorem so_all : ∀ x ∈ sentL, ∃ text g, x.2 = .iface "*errors.errorString" (.ptr (.agg [.lit (.string text)])) ∧ Tryd.prog.globalNamed x.1 = some g ∧ (Tryd.prog.globals[g]?).map (·.type) = some 48 := by
  intro x hx
  simp only [sentL, List.mem_cons, List.not_mem_nil, or_false] at hx
  rcases hx with rfl | rfl | rfl | rfl | rfl | rfl | rfl | rfl | rfl | rfl | rfl | rfl | rfl | rfl | rfl | rfl
  · exact ⟨_, 2, rfl, by kernel_rfl, by kernel_rfl⟩
  · exact ⟨_, 3, rfl, by kernel_rfl, by kernel_rfl⟩
  · exact ⟨_, 4, rfl, by kernel_rfl, by kernel_rfl⟩
  · exact ⟨_, 5, rfl, by kernel_rfl, by kernel_rfl⟩
  · exact ⟨_, 6, rfl, by kernel_rfl, by kernel_rfl⟩
  · exact ⟨_, 7, rfl, by kernel_rfl, by kernel_rfl⟩
  · exact ⟨_, 8, rfl, by kernel_rfl, by kernel_rfl⟩
  · exact ⟨_, 9, rfl, by kernel_rfl, by kernel_rfl⟩
  · exact ⟨_, 10, rfl, by kernel_rfl, by kernel_rfl⟩
  · exact ⟨_, 11, rfl, by kernel_rfl, by kernel_rfl⟩
  · exact ⟨_, 12, rfl, by kernel_rfl, by kernel_rfl⟩
  · exact ⟨_, 13, rfl, by kernel_rfl, by kernel_rfl⟩
  · exact ⟨_, 14, rfl, by kernel_rfl, by kernel_rfl⟩
  · exact ⟨_, 0, rfl, by kernel_rfl, by kernel_rfl⟩
  · exact ⟨_, 15, rfl, by kernel_rfl, by kernel_rfl⟩
  · exact ⟨_, 16, rfl, by kernel_rfl, by kernel_rfl⟩

theorem sents_of {W : World} (h : laidMetH Tryd.prog (("errors.errorType", Rows.laid_errors_errorType) :: sentL) W) : ∃ a, Sents W a := by
  have h' : laidMet Tryd.prog sentL W ∧ handlesMet Tryd.prog [("errors.errorType", Rows.laid_errors_errorType)] W := h
  obtain ⟨ps, hl, hnd, hrows⟩ := h'.1
  obtain ⟨f, hf, hne⟩ := sents_all Tryd.underlying48 so_row Tryd.underlying200 Tryd.underlying222 rfl rfl Tryd.underlying9 (by kernel_rfl) (by kernel_rfl) sentL ps hl hnd hrows so_all
  refine ⟨fun c => f (c - 2), ⟨?_, fun c h1 h2 => ?_, fun c h1 h2 => ?_, fun c d h1 h2 h3 => hne (c - 2) (d - 2) (by omega) (by show d - 2 < 16; omega)⟩⟩
  · obtain ⟨name, u, ty, e1, e2, e3, e4, e5⟩ := h'.2 _ (List.mem_singleton.2 rfl)
    have en : name = [101, 114, 114, 111, 114] := (Option.some.inj e1).symm
    subst en
    obtain rfl := Option.some.inj (so_rt.symm.trans e2)
    have hm : ty ∈ (List.range Tryd.prog.types.size).filter fun t => Tryd.prog.rowNamed t [101, 114, 114, 111, 114] := List.mem_filter.2 ⟨List.mem_range.2 e3, e4⟩
    rw [so_one] at hm
    obtain rfl := List.mem_singleton.1 hm
    have hh : typeHandle Tryd.prog 48 = .pointer (some ⟨17, 48, none⟩) := by kernel_rfl
    rw [hh] at e5
    simpa using World.var?_cell (show Tryd.prog.globalNamed "errors.errorType" = some 1 by kernel_rfl) e5 0
  · have hg := gl_of c h1 h2
    rcases hg with ⟨rfl, hg⟩ | ⟨rfl, hg⟩ | ⟨rfl, hg⟩ | ⟨rfl, hg⟩ | ⟨rfl, hg⟩ | ⟨rfl, hg⟩ | ⟨rfl, hg⟩ | ⟨rfl, hg⟩ | ⟨rfl, hg⟩ | ⟨rfl, hg⟩ | ⟨rfl, hg⟩ | ⟨rfl, hg⟩ | ⟨rfl, hg⟩ | ⟨rfl, hg⟩ | ⟨rfl, hg⟩ | ⟨rfl, hg⟩
    · rw [hg]; simpa using World.var?_cell (show Tryd.prog.globalNamed "bolter/fault.ErrLong" = some 2 by kernel_rfl) (hf 0 _ rfl).1 0
    · rw [hg]; simpa using World.var?_cell (show Tryd.prog.globalNamed "bolter/fault.ErrSyntax" = some 3 by kernel_rfl) (hf 1 _ rfl).1 0
    · rw [hg]; simpa using World.var?_cell (show Tryd.prog.globalNamed "bolter/fault.ErrDeep" = some 4 by kernel_rfl) (hf 2 _ rfl).1 0
    · rw [hg]; simpa using World.var?_cell (show Tryd.prog.globalNamed "bolter/fault.ErrMany" = some 5 by kernel_rfl) (hf 3 _ rfl).1 0
    · rw [hg]; simpa using World.var?_cell (show Tryd.prog.globalNamed "bolter/fault.ErrName" = some 6 by kernel_rfl) (hf 4 _ rfl).1 0
    · rw [hg]; simpa using World.var?_cell (show Tryd.prog.globalNamed "bolter/fault.ErrDefCycle" = some 7 by kernel_rfl) (hf 5 _ rfl).1 0
    · rw [hg]; simpa using World.var?_cell (show Tryd.prog.globalNamed "bolter/fault.ErrRepeat" = some 8 by kernel_rfl) (hf 6 _ rfl).1 0
    · rw [hg]; simpa using World.var?_cell (show Tryd.prog.globalNamed "bolter/fault.ErrTooManyPositions" = some 9 by kernel_rfl) (hf 7 _ rfl).1 0
    · rw [hg]; simpa using World.var?_cell (show Tryd.prog.globalNamed "bolter/fault.ErrTrail" = some 10 by kernel_rfl) (hf 8 _ rfl).1 0
    · rw [hg]; simpa using World.var?_cell (show Tryd.prog.globalNamed "bolter/fault.ErrTooManyStates" = some 11 by kernel_rfl) (hf 9 _ rfl).1 0
    · rw [hg]; simpa using World.var?_cell (show Tryd.prog.globalNamed "bolter/fault.ErrImage" = some 12 by kernel_rfl) (hf 10 _ rfl).1 0
    · rw [hg]; simpa using World.var?_cell (show Tryd.prog.globalNamed "bolter/fault.ErrModeStack" = some 13 by kernel_rfl) (hf 11 _ rfl).1 0
    · rw [hg]; simpa using World.var?_cell (show Tryd.prog.globalNamed "bolter/fault.ErrClosed" = some 14 by kernel_rfl) (hf 12 _ rfl).1 0
    · rw [hg]; simpa using World.var?_cell (show Tryd.prog.globalNamed "bolter/fault.ErrArg" = some 0 by kernel_rfl) (hf 13 _ rfl).1 0
    · rw [hg]; simpa using World.var?_cell (show Tryd.prog.globalNamed "bolter/fault.ErrCommand" = some 15 by kernel_rfl) (hf 14 _ rfl).1 0
    · rw [hg]; simpa using World.var?_cell (show Tryd.prog.globalNamed "bolter/fault.ErrHandle" = some 16 by kernel_rfl) (hf 15 _ rfl).1 0
  · have hi : c - 2 < sentL.length := by show c - 2 < 16; omega
    exact (hf (c - 2) _ (List.getElem?_eq_getElem hi)).2.2

/- ---- a world for the witness: errors.errorType's cell laid, then the sentinels ---- -/
noncomputable def sentBase (os : Os) : World :=
  { World.holding Tryd.prog os ⟨#[], #[], []⟩ with heap := (World.holding Tryd.prog os ⟨#[], #[], []⟩).heap.modify 1 fun
      | .cells _ t frozen => .cells #[.iface 185 (.agg #[.pointer (some ⟨17, 48, none⟩)])] t frozen
      | o => o }
noncomputable def sentWorld (os : Os) : World := (sentBase os).layVars Tryd.prog sentL
theorem sentWorld_os (os : Os) : (sentWorld os).os = os := World.layVars_os _ _ _
theorem sentWorld_met (os : Os) (args : Array Value) : laidMetH Tryd.prog (("errors.errorType", Rows.laid_errors_errorType) :: sentL) ((sentWorld os).forCall (fun _ _ => 0) ⟨#[], args, []⟩).memory := by
  refine laidMetH_of_parts ?_ (by kernel_rfl)
  show laidMet Tryd.prog sentL _
  have e1 : (sentL.filter fun x => (sentL.map (·.1)).contains x.1) = sentL := List.filter_eq_self.2 fun x hx => List.contains_iff_mem.2 (List.mem_map.2 ⟨x, hx, rfl⟩)
  have e2 : (sentL.filter fun x => !(sentL.map (·.1)).contains x.1) = [] := List.filter_eq_nil_iff.2 fun x hx => by rw [List.contains_iff_mem.2 (List.mem_map.2 ⟨x, hx, rfl⟩)]; simp
  have h : laidMet Tryd.prog sentL (sentWorld os) := laidMet_layVars (w0 := sentBase os) (sentL.map (·.1)) [] (by rw [e1]; rfl) (by rw [e1]; kernel_rfl) (by rw [e1]; kernel_rfl) (by rw [e2]; exact LaidIn.none)
  exact h.of_heap (by simp [World.memory, World.forCall, Input.heap])
theorem witness_sent {H : Type} {enc : TypeId × Value → H} {os : Os} {f : FuncId} {fn : Func} {s : OpenSpec} {conds : List PathCond} {apart : Bool} {laid : List (String × DataW Unit)} (args : Array Value)
    (hz : ((sentWorld os).forCall (fun _ _ => 0) ⟨#[], args, []⟩).variablesZipB Tryd.prog = true)
    (hr : (((sentWorld os).forCall (fun _ _ => 0) ⟨#[], args, []⟩).heap.toList.drop Tryd.prog.globals.size).take ((begin Tryd.prog (fun _ _ => 0) default).world.heap.size - Tryd.prog.globals.size) =
      (begin Tryd.prog (fun _ _ => 0) default).world.heap.toList.drop Tryd.prog.globals.size)
    (hok : Input.okWideB Tryd.prog ((sentWorld os).forCall (fun _ _ => 0) ⟨#[], args, []⟩) f ⟨#[], args, []⟩ = true)
    (hrow : s.preRow enc Tryd.prog fn conds apart laid ((sentWorld os).forCall (fun _ _ => 0) ⟨#[], args, []⟩).memory args) :
    ∃ (w : World) (tape : Tape) (i : Input), w.os = os ∧ (w.forCall tape i).Shaped Tryd.checked.prog ∧ i.vars = [] ∧ Input.okWide Tryd.checked.prog (w.forCall tape i) .any w.heap.size f i ∧
      s.preRow enc Tryd.checked.prog fn conds apart laid (w.forCall tape i).memory i.args ∧ ({ modest := false } : Assume).holds Tryd.checked.prog (lone (Frame.enter Tryd.checked.prog f i.args .normal) [] (w.forCall tape i)) :=
  ⟨sentWorld os, fun _ _ => 0, ⟨#[], args, []⟩, sentWorld_os _, World.shaped_of_ZipB hz hr, (Input.okWide_of_okWideB (base := 0) hok).1, (Input.okWide_of_okWideB hok).2, hrow, by
    simp only [Assume.holds]
    exact ⟨by simp, by simp, fun _ => Modest.zero, by simp, by simp⟩⟩
end Go.Proofs.YtloooajippcdlaaDoor
