/-
  DERIVED. GIVEN WITH THE SEED: THE PROGRAM's TIES (one call each: nine closed facts by the kernel) AND EACH ROW's TIE, after the 31st guide's Derived/Test/Toyas{Tie, Card}.lean. No idea stands in it: it is a product of the set-up. Laid BY PROGRAM, IN A SANDBOX (cutbox-door.mjs). By AI agents, Wed Nov 11 2026. No macro, syntax, notation, axiom, sorry.
-/
import Derived.Test.YtihginaanlcilaaDoorRows
import Derived.LaidByTextLater
import Derived.SevenTiedAt
import Derived.LaidSub
import Derived.LaidOnce
namespace Go.Proofs.YtihginaanlcilaaDoor
open Go
set_option maxRecDepth 100000
theorem seatTie1 : Tryd.prog.laidByTextLater [("errors.errorType", Rows.laid_errors_errorType), ("bolter/fault.ErrLong", Rows.laid_bolter_fault_ErrLong), ("bolter/fault.ErrSyntax", Rows.laid_bolter_fault_ErrSyntax), ("bolter/fault.ErrDeep", Rows.laid_bolter_fault_ErrDeep), ("bolter/fault.ErrMany", Rows.laid_bolter_fault_ErrMany), ("bolter/fault.ErrName", Rows.laid_bolter_fault_ErrName), ("bolter/fault.ErrDefCycle", Rows.laid_bolter_fault_ErrDefCycle), ("bolter/fault.ErrRepeat", Rows.laid_bolter_fault_ErrRepeat), ("bolter/fault.ErrTooManyPositions", Rows.laid_bolter_fault_ErrTooManyPositions), ("bolter/fault.ErrTrail", Rows.laid_bolter_fault_ErrTrail), ("bolter/fault.ErrTooManyStates", Rows.laid_bolter_fault_ErrTooManyStates), ("bolter/fault.ErrImage", Rows.laid_bolter_fault_ErrImage), ("bolter/fault.ErrModeStack", Rows.laid_bolter_fault_ErrModeStack), ("bolter/fault.ErrClosed", Rows.laid_bolter_fault_ErrClosed), ("bolter/fault.ErrArg", Rows.laid_bolter_fault_ErrArg), ("bolter/fault.ErrCommand", Rows.laid_bolter_fault_ErrCommand), ("bolter/fault.ErrHandle", Rows.laid_bolter_fault_ErrHandle)] [.handle, .sentinel, .sentinel, .sentinel, .sentinel, .sentinel, .sentinel, .sentinel, .sentinel, .sentinel, .sentinel, .sentinel, .sentinel, .sentinel, .sentinel, .sentinel, .sentinel] true :=
  Program.laidByTextLater_by_one 320 8 2 (by kernel_rfl) (by kernel_rfl) (by kernel_rfl) (by kernel_rfl) (by kernel_rfl) (by kernel_rfl) (fun _ _ => by kernel_rfl)
theorem noOwnUnsafe : Tryd.pinned.checked.prog.headLifts.contains "ownunsafe" = false := by kernel_rfl
theorem tie : Tryd.prog.laidByTextLater [("bolter/fault.ErrArg", Rows.laid_bolter_fault_ErrArg)] [.sentinel] true :=
  Program.laidByTextLater.sub seatTie1 ["bolter/fault.ErrArg"] (by kernel_rfl) (by kernel_rfl)
theorem witnessWords_row_tie : Rows.witnessWordsRow.laidByTextAt .later Tryd.pinned [.sentinel] true :=
  OpenClaim.laidByTextAt_later rfl rfl tie noOwnUnsafe
theorem tie2 : Tryd.prog.laidByTextLater [("errors.errorType", Rows.laid_errors_errorType), ("bolter/fault.ErrLong", Rows.laid_bolter_fault_ErrLong), ("bolter/fault.ErrSyntax", Rows.laid_bolter_fault_ErrSyntax), ("bolter/fault.ErrDeep", Rows.laid_bolter_fault_ErrDeep), ("bolter/fault.ErrMany", Rows.laid_bolter_fault_ErrMany), ("bolter/fault.ErrName", Rows.laid_bolter_fault_ErrName), ("bolter/fault.ErrDefCycle", Rows.laid_bolter_fault_ErrDefCycle), ("bolter/fault.ErrRepeat", Rows.laid_bolter_fault_ErrRepeat), ("bolter/fault.ErrTooManyPositions", Rows.laid_bolter_fault_ErrTooManyPositions), ("bolter/fault.ErrTrail", Rows.laid_bolter_fault_ErrTrail), ("bolter/fault.ErrTooManyStates", Rows.laid_bolter_fault_ErrTooManyStates), ("bolter/fault.ErrImage", Rows.laid_bolter_fault_ErrImage), ("bolter/fault.ErrModeStack", Rows.laid_bolter_fault_ErrModeStack), ("bolter/fault.ErrClosed", Rows.laid_bolter_fault_ErrClosed), ("bolter/fault.ErrArg", Rows.laid_bolter_fault_ErrArg), ("bolter/fault.ErrCommand", Rows.laid_bolter_fault_ErrCommand), ("bolter/fault.ErrHandle", Rows.laid_bolter_fault_ErrHandle)] [.handle, .sentinel, .sentinel, .sentinel, .sentinel, .sentinel, .sentinel, .sentinel, .sentinel, .sentinel, .sentinel, .sentinel, .sentinel, .sentinel, .sentinel, .sentinel, .sentinel] true :=
  Program.laidByTextLater.sub seatTie1 ["errors.errorType", "bolter/fault.ErrLong", "bolter/fault.ErrSyntax", "bolter/fault.ErrDeep", "bolter/fault.ErrMany", "bolter/fault.ErrName", "bolter/fault.ErrDefCycle", "bolter/fault.ErrRepeat", "bolter/fault.ErrTooManyPositions", "bolter/fault.ErrTrail", "bolter/fault.ErrTooManyStates", "bolter/fault.ErrImage", "bolter/fault.ErrModeStack", "bolter/fault.ErrClosed", "bolter/fault.ErrArg", "bolter/fault.ErrCommand", "bolter/fault.ErrHandle"] (by kernel_rfl) (by kernel_rfl)
theorem witnessExact_row_tie : Rows.witnessExactRow.laidByTextAt .later Tryd.pinned [.handle, .sentinel, .sentinel, .sentinel, .sentinel, .sentinel, .sentinel, .sentinel, .sentinel, .sentinel, .sentinel, .sentinel, .sentinel, .sentinel, .sentinel, .sentinel, .sentinel] true :=
  OpenClaim.laidByTextAt_later rfl rfl tie2 noOwnUnsafe
theorem witnessMore_row_tie : Rows.witnessMoreRow.laidByTextAt .later Tryd.pinned [.handle, .sentinel, .sentinel, .sentinel, .sentinel, .sentinel, .sentinel, .sentinel, .sentinel, .sentinel, .sentinel, .sentinel, .sentinel, .sentinel, .sentinel, .sentinel, .sentinel] true :=
  OpenClaim.laidByTextAt_later rfl rfl tie2 noOwnUnsafe
theorem witnessWordsUpto_row_tie : Rows.witnessWordsUptoRow.laidByTextAt .later Tryd.pinned [.sentinel] true :=
  OpenClaim.laidByTextAt_later rfl rfl tie noOwnUnsafe
theorem witnessExactUpto_row_tie : Rows.witnessExactUptoRow.laidByTextAt .later Tryd.pinned [.handle, .sentinel, .sentinel, .sentinel, .sentinel, .sentinel, .sentinel, .sentinel, .sentinel, .sentinel, .sentinel, .sentinel, .sentinel, .sentinel, .sentinel, .sentinel, .sentinel] true :=
  OpenClaim.laidByTextAt_later rfl rfl tie2 noOwnUnsafe
theorem witnessMoreUpto_row_tie : Rows.witnessMoreUptoRow.laidByTextAt .later Tryd.pinned [.handle, .sentinel, .sentinel, .sentinel, .sentinel, .sentinel, .sentinel, .sentinel, .sentinel, .sentinel, .sentinel, .sentinel, .sentinel, .sentinel, .sentinel, .sentinel, .sentinel] true :=
  OpenClaim.laidByTextAt_later rfl rfl tie2 noOwnUnsafe
end Go.Proofs.YtihginaanlcilaaDoor
