/-
  NARROWER THAN 'FOR EVERY INPUT', by the rows' own cells (each row's printed sentence says how): WitnessWords: laid · WitnessExact: laid · WitnessMore: laid.
  DERIVED. THE GIVEN ROWS OF THIS SEAT. 3 by the template 'for every input the law returns true; each argument reads behind the call as it read before'; 0 by the template 'total and deterministic' (their statements: YtihginaanlcilaaDoorTotals.lean).
  GIVEN WITH THE SEED: the statements are not yours to turn. If you find one false, say at which input.
  Laid BY PROGRAM, IN A SANDBOX (cutbox-rows.mjs): the forced cells as the released guide's own fill.sh prints them over the translation 78c9f799a00642d7… (all of the seat's roots in one cut). By AI agents, Wed Nov 11 2026. No macro, syntax, notation, axiom, sorry.
-/
import Derived.Test.YtihginaanlcilaaDoorChecked
import GoSem.Claim
import GoSem.ClaimJoined
import GoSem.ClaimMapViews
import Derived.JoinedTies
import Derived.KernelRfl
namespace Go.Proofs.YtihginaanlcilaaDoor
/- THE CELL 'sum', in the pinned program and in every row, IS THE sha256 OF THE DUMP (.gsa) THAT YtihginaanlcilaaDoorProg.lean LOADS. Nothing in Lean hashes anything: it is a label: what it is worth is what the hold of that sum in a sandbox is worth. -/
noncomputable def Tryd.pinned : Pinned := { name := "ytihginaanlcilaadoor", sum := "78c9f799a00642d785b533b2215a6947811f198397534001bd6cd36cdfd9a3c8", checked := Tryd.checked }
namespace Rows
def none {H : Type} : Left H := { results := [], args := [] }

/- WHAT THE LISTED PACKAGE-LEVEL VARIABLES READ AS WHEN THE CALL BEGINS. Each datum BY PROGRAM (the guide's laid-datum.mjs) off the statement by which the dump's own 'gosem.cut.vars' lays the variable. In a bare row this is a premise. The card (YtihginaanlcilaaDoorCards.lean) ties it to the program's text. -/
def laid_bolter_fault_ErrArg {H : Type} : DataW H := .iface "*errors.errorString" (.ptr (.agg [.lit (.string [97, 114, 103, 117, 109, 101, 110, 116])]))
def laid_errors_errorType {H : Type} : DataW H := .iface "internal/reflectlite.rtype" (.agg [.ptr (.lit (.string [101, 114, 114, 111, 114]))])
def laid_bolter_fault_ErrLong {H : Type} : DataW H := .iface "*errors.errorString" (.ptr (.agg [.lit (.string [116, 111, 111, 32, 108, 111, 110, 103])]))
def laid_bolter_fault_ErrSyntax {H : Type} : DataW H := .iface "*errors.errorString" (.ptr (.agg [.lit (.string [115, 121, 110, 116, 97, 120])]))
def laid_bolter_fault_ErrDeep {H : Type} : DataW H := .iface "*errors.errorString" (.ptr (.agg [.lit (.string [116, 111, 111, 32, 100, 101, 101, 112])]))
def laid_bolter_fault_ErrMany {H : Type} : DataW H := .iface "*errors.errorString" (.ptr (.agg [.lit (.string [116, 111, 111, 32, 109, 97, 110, 121])]))
def laid_bolter_fault_ErrName {H : Type} : DataW H := .iface "*errors.errorString" (.ptr (.agg [.lit (.string [110, 97, 109, 101])]))
def laid_bolter_fault_ErrDefCycle {H : Type} : DataW H := .iface "*errors.errorString" (.ptr (.agg [.lit (.string [100, 101, 102, 105, 110, 105, 116, 105, 111, 110, 32, 99, 121, 99, 108, 101])]))
def laid_bolter_fault_ErrRepeat {H : Type} : DataW H := .iface "*errors.errorString" (.ptr (.agg [.lit (.string [114, 101, 112, 101, 97, 116])]))
def laid_bolter_fault_ErrTooManyPositions {H : Type} : DataW H := .iface "*errors.errorString" (.ptr (.agg [.lit (.string [116, 111, 111, 32, 109, 97, 110, 121, 32, 112, 111, 115, 105, 116, 105, 111, 110, 115])]))
def laid_bolter_fault_ErrTrail {H : Type} : DataW H := .iface "*errors.errorString" (.ptr (.agg [.lit (.string [116, 114, 97, 105, 108, 105, 110, 103, 32, 99, 111, 110, 116, 101, 120, 116])]))
def laid_bolter_fault_ErrTooManyStates {H : Type} : DataW H := .iface "*errors.errorString" (.ptr (.agg [.lit (.string [116, 111, 111, 32, 109, 97, 110, 121, 32, 115, 116, 97, 116, 101, 115])]))
def laid_bolter_fault_ErrImage {H : Type} : DataW H := .iface "*errors.errorString" (.ptr (.agg [.lit (.string [105, 109, 97, 103, 101])]))
def laid_bolter_fault_ErrModeStack {H : Type} : DataW H := .iface "*errors.errorString" (.ptr (.agg [.lit (.string [109, 111, 100, 101, 32, 115, 116, 97, 99, 107])]))
def laid_bolter_fault_ErrClosed {H : Type} : DataW H := .iface "*errors.errorString" (.ptr (.agg [.lit (.string [99, 108, 111, 115, 101, 100])]))
def laid_bolter_fault_ErrCommand {H : Type} : DataW H := .iface "*errors.errorString" (.ptr (.agg [.lit (.string [99, 111, 109, 109, 97, 110, 100])]))
def laid_bolter_fault_ErrHandle {H : Type} : DataW H := .iface "*errors.errorString" (.ptr (.agg [.lit (.string [104, 97, 110, 100, 108, 101])]))

/-- 'bolterlaw13.WitnessWords': WHATEVER THE INPUT: true; the input reads as it did. -/
def witnessWordsSpec : ChangeSpec := { name := "witnessWords", fn := fun _ => fun
  | [d] => { results := [.lit (.bool true)], args := [d] }
  | _ => none }
def witnessWordsRow : OpenClaim := { program := "ytihginaanlcilaadoor", sum := "78c9f799a00642d785b533b2215a6947811f198397534001bd6cd36cdfd9a3c8", func := "bolter/bolterlaw13.WitnessWords", spec := "witnessWords", unfollowed := true, recurses := true, named := ["bolter/fault.ErrArg"], apart := false, laid := [("bolter/fault.ErrArg", laid_bolter_fault_ErrArg)] }
def WitnessWordsSaid : Prop := witnessWordsRow.holds Tryd.pinned (OpenSpec.ofChange witnessWordsSpec)

/-- ITS FALSE NEIGHBOUR: 'it returns false'. Refute it at one input. -/
def witnessWordsWrong : ChangeSpec := { name := "witnessWords", fn := fun _ => fun
  | [d] => { results := [.lit (.bool false)], args := [d] }
  | _ => none }
def WitnessWordsWrongFalsely : Prop := witnessWordsRow.holds Tryd.pinned (OpenSpec.ofChange witnessWordsWrong)

/-- 'bolterlaw13.WitnessExact': WHATEVER THE INPUT: true; the input reads as it did. -/
def witnessExactSpec : ChangeSpec := { name := "witnessExact", fn := fun _ => fun
  | [d] => { results := [.lit (.bool true)], args := [d] }
  | _ => none }
def witnessExactRow : OpenClaim := { program := "ytihginaanlcilaadoor", sum := "78c9f799a00642d785b533b2215a6947811f198397534001bd6cd36cdfd9a3c8", func := "bolter/bolterlaw13.WitnessExact", spec := "witnessExact", inPlace := ["internal/reflectlite.TypeOf", "internal/reflectlite.ValueOf", "(internal/reflectlite.Value).Type", "(internal/reflectlite.Value).IsNil", "(internal/reflectlite.Value).Elem", "(internal/reflectlite.Value).Set"], unfollowed := true, recurses := true, named := ["bolter/fault.ErrArg", "bolter/fault.ErrLong", "bolter/fault.ErrSyntax", "bolter/fault.ErrDeep", "bolter/fault.ErrMany", "bolter/fault.ErrName", "bolter/fault.ErrDefCycle", "bolter/fault.ErrRepeat", "bolter/fault.ErrTooManyPositions", "bolter/fault.ErrTrail", "bolter/fault.ErrTooManyStates", "bolter/fault.ErrImage", "bolter/fault.ErrModeStack", "bolter/fault.ErrClosed", "bolter/fault.ErrCommand", "bolter/fault.ErrHandle", "errors.errorType"], apart := false, laid := [("errors.errorType", laid_errors_errorType), ("bolter/fault.ErrLong", laid_bolter_fault_ErrLong), ("bolter/fault.ErrSyntax", laid_bolter_fault_ErrSyntax), ("bolter/fault.ErrDeep", laid_bolter_fault_ErrDeep), ("bolter/fault.ErrMany", laid_bolter_fault_ErrMany), ("bolter/fault.ErrName", laid_bolter_fault_ErrName), ("bolter/fault.ErrDefCycle", laid_bolter_fault_ErrDefCycle), ("bolter/fault.ErrRepeat", laid_bolter_fault_ErrRepeat), ("bolter/fault.ErrTooManyPositions", laid_bolter_fault_ErrTooManyPositions), ("bolter/fault.ErrTrail", laid_bolter_fault_ErrTrail), ("bolter/fault.ErrTooManyStates", laid_bolter_fault_ErrTooManyStates), ("bolter/fault.ErrImage", laid_bolter_fault_ErrImage), ("bolter/fault.ErrModeStack", laid_bolter_fault_ErrModeStack), ("bolter/fault.ErrClosed", laid_bolter_fault_ErrClosed), ("bolter/fault.ErrArg", laid_bolter_fault_ErrArg), ("bolter/fault.ErrCommand", laid_bolter_fault_ErrCommand), ("bolter/fault.ErrHandle", laid_bolter_fault_ErrHandle)] }
def WitnessExactSaid : Prop := witnessExactRow.holds Tryd.pinned (OpenSpec.ofChange witnessExactSpec)

/-- ITS FALSE NEIGHBOUR: 'it returns false'. Refute it at one input. -/
def witnessExactWrong : ChangeSpec := { name := "witnessExact", fn := fun _ => fun
  | [d] => { results := [.lit (.bool false)], args := [d] }
  | _ => none }
def WitnessExactWrongFalsely : Prop := witnessExactRow.holds Tryd.pinned (OpenSpec.ofChange witnessExactWrong)

/-- 'bolterlaw13.WitnessMore': WHATEVER THE INPUT: true; the input reads as it did. -/
def witnessMoreSpec : ChangeSpec := { name := "witnessMore", fn := fun _ => fun
  | [d] => { results := [.lit (.bool true)], args := [d] }
  | _ => none }
def witnessMoreRow : OpenClaim := { program := "ytihginaanlcilaadoor", sum := "78c9f799a00642d785b533b2215a6947811f198397534001bd6cd36cdfd9a3c8", func := "bolter/bolterlaw13.WitnessMore", spec := "witnessMore", inPlace := ["internal/reflectlite.TypeOf", "internal/reflectlite.ValueOf", "(internal/reflectlite.Value).Type", "(internal/reflectlite.Value).IsNil", "(internal/reflectlite.Value).Elem", "(internal/reflectlite.Value).Set"], unfollowed := true, recurses := true, named := ["bolter/fault.ErrArg", "bolter/fault.ErrLong", "bolter/fault.ErrSyntax", "bolter/fault.ErrDeep", "bolter/fault.ErrMany", "bolter/fault.ErrName", "bolter/fault.ErrDefCycle", "bolter/fault.ErrRepeat", "bolter/fault.ErrTooManyPositions", "bolter/fault.ErrTrail", "bolter/fault.ErrTooManyStates", "bolter/fault.ErrImage", "bolter/fault.ErrModeStack", "bolter/fault.ErrClosed", "bolter/fault.ErrCommand", "bolter/fault.ErrHandle", "errors.errorType"], apart := false, laid := [("errors.errorType", laid_errors_errorType), ("bolter/fault.ErrLong", laid_bolter_fault_ErrLong), ("bolter/fault.ErrSyntax", laid_bolter_fault_ErrSyntax), ("bolter/fault.ErrDeep", laid_bolter_fault_ErrDeep), ("bolter/fault.ErrMany", laid_bolter_fault_ErrMany), ("bolter/fault.ErrName", laid_bolter_fault_ErrName), ("bolter/fault.ErrDefCycle", laid_bolter_fault_ErrDefCycle), ("bolter/fault.ErrRepeat", laid_bolter_fault_ErrRepeat), ("bolter/fault.ErrTooManyPositions", laid_bolter_fault_ErrTooManyPositions), ("bolter/fault.ErrTrail", laid_bolter_fault_ErrTrail), ("bolter/fault.ErrTooManyStates", laid_bolter_fault_ErrTooManyStates), ("bolter/fault.ErrImage", laid_bolter_fault_ErrImage), ("bolter/fault.ErrModeStack", laid_bolter_fault_ErrModeStack), ("bolter/fault.ErrClosed", laid_bolter_fault_ErrClosed), ("bolter/fault.ErrArg", laid_bolter_fault_ErrArg), ("bolter/fault.ErrCommand", laid_bolter_fault_ErrCommand), ("bolter/fault.ErrHandle", laid_bolter_fault_ErrHandle)] }
def WitnessMoreSaid : Prop := witnessMoreRow.holds Tryd.pinned (OpenSpec.ofChange witnessMoreSpec)

/-- ITS FALSE NEIGHBOUR: 'it returns false'. Refute it at one input. -/
def witnessMoreWrong : ChangeSpec := { name := "witnessMore", fn := fun _ => fun
  | [d] => { results := [.lit (.bool false)], args := [d] }
  | _ => none }
def WitnessMoreWrongFalsely : Prop := witnessMoreRow.holds Tryd.pinned (OpenSpec.ofChange witnessMoreWrong)

/- THE SECOND FORM. 'bulk': how many values and letters a reading holds, each counted each time it is reached (what is shared counts as often as it is met; a slice's spare places count too). A statement '..UptoSaid' is the law's where the arguments, and the package variables that the reading takes, are together of bulk at most 1048576: NARROWER than '..Said'. Prove '..Said' where nothing that the law and all that it calls make is longer than what came in: it says more and counts as full. Else prove '..UptoSaid'. A law counts once. -/
mutual
def uptoBulk {H : Type} : DataW H → Nat
  | .lit (.string bytes) => bytes.length + 1
  | .lit _ => 1
  | .nil => 1
  | .ptr d => uptoBulk d + 1
  | .slice elems spare => uptoBulkAll elems + uptoBulkAll spare + 1
  | .agg parts => uptoBulkAll parts + 1
  | .iface _ d => uptoBulk d + 1
  | .map entries => uptoBulkEntries entries + 1
  | .held _ => 1
def uptoBulkAll {H : Type} : List (DataW H) → Nat
  | [] => 0
  | d :: r => uptoBulk d + uptoBulkAll r
def uptoBulkEntries {H : Type} : List (Lit × DataW H) → Nat
  | [] => 0
  | x :: r => uptoBulkEntry x + uptoBulkEntries r
def uptoBulkEntry {H : Type} : Lit × DataW H → Nat
  | (.string bytes, d) => bytes.length + uptoBulk d + 1
  | (_, d) => uptoBulk d + 1
 end
def uptoSmall : (H : Type) → List (DataW H) → Bool := fun _ ds => decide (uptoBulkAll ds ≤ 1048576)
def OpenSpec.upto (s : _root_.Go.ChangeSpec) : _root_.Go.OpenSpec := { _root_.Go.OpenSpec.ofChange s with cond := some uptoSmall }

/-- 'bolterlaw13.WitnessWords', WHERE WHAT IT READS IS OF BULK AT MOST 1048576: true; the input reads as it did. -/
def witnessWordsUptoRow : OpenClaim := { program := "ytihginaanlcilaadoor", sum := "78c9f799a00642d785b533b2215a6947811f198397534001bd6cd36cdfd9a3c8", func := "bolter/bolterlaw13.WitnessWords", spec := "witnessWords", unfollowed := true, recurses := true, named := ["bolter/fault.ErrArg"], apart := false, laid := [("bolter/fault.ErrArg", laid_bolter_fault_ErrArg)], narrowed := true }
def WitnessWordsUptoSaid : Prop := witnessWordsUptoRow.holds Tryd.pinned (OpenSpec.upto witnessWordsSpec)

/-- 'bolterlaw13.WitnessExact', WHERE WHAT IT READS IS OF BULK AT MOST 1048576: true; the input reads as it did. -/
def witnessExactUptoRow : OpenClaim := { program := "ytihginaanlcilaadoor", sum := "78c9f799a00642d785b533b2215a6947811f198397534001bd6cd36cdfd9a3c8", func := "bolter/bolterlaw13.WitnessExact", spec := "witnessExact", inPlace := ["internal/reflectlite.TypeOf", "internal/reflectlite.ValueOf", "(internal/reflectlite.Value).Type", "(internal/reflectlite.Value).IsNil", "(internal/reflectlite.Value).Elem", "(internal/reflectlite.Value).Set"], unfollowed := true, recurses := true, named := ["bolter/fault.ErrArg", "bolter/fault.ErrLong", "bolter/fault.ErrSyntax", "bolter/fault.ErrDeep", "bolter/fault.ErrMany", "bolter/fault.ErrName", "bolter/fault.ErrDefCycle", "bolter/fault.ErrRepeat", "bolter/fault.ErrTooManyPositions", "bolter/fault.ErrTrail", "bolter/fault.ErrTooManyStates", "bolter/fault.ErrImage", "bolter/fault.ErrModeStack", "bolter/fault.ErrClosed", "bolter/fault.ErrCommand", "bolter/fault.ErrHandle", "errors.errorType"], apart := false, laid := [("errors.errorType", laid_errors_errorType), ("bolter/fault.ErrLong", laid_bolter_fault_ErrLong), ("bolter/fault.ErrSyntax", laid_bolter_fault_ErrSyntax), ("bolter/fault.ErrDeep", laid_bolter_fault_ErrDeep), ("bolter/fault.ErrMany", laid_bolter_fault_ErrMany), ("bolter/fault.ErrName", laid_bolter_fault_ErrName), ("bolter/fault.ErrDefCycle", laid_bolter_fault_ErrDefCycle), ("bolter/fault.ErrRepeat", laid_bolter_fault_ErrRepeat), ("bolter/fault.ErrTooManyPositions", laid_bolter_fault_ErrTooManyPositions), ("bolter/fault.ErrTrail", laid_bolter_fault_ErrTrail), ("bolter/fault.ErrTooManyStates", laid_bolter_fault_ErrTooManyStates), ("bolter/fault.ErrImage", laid_bolter_fault_ErrImage), ("bolter/fault.ErrModeStack", laid_bolter_fault_ErrModeStack), ("bolter/fault.ErrClosed", laid_bolter_fault_ErrClosed), ("bolter/fault.ErrArg", laid_bolter_fault_ErrArg), ("bolter/fault.ErrCommand", laid_bolter_fault_ErrCommand), ("bolter/fault.ErrHandle", laid_bolter_fault_ErrHandle)], narrowed := true }
def WitnessExactUptoSaid : Prop := witnessExactUptoRow.holds Tryd.pinned (OpenSpec.upto witnessExactSpec)

/-- 'bolterlaw13.WitnessMore', WHERE WHAT IT READS IS OF BULK AT MOST 1048576: true; the input reads as it did. -/
def witnessMoreUptoRow : OpenClaim := { program := "ytihginaanlcilaadoor", sum := "78c9f799a00642d785b533b2215a6947811f198397534001bd6cd36cdfd9a3c8", func := "bolter/bolterlaw13.WitnessMore", spec := "witnessMore", inPlace := ["internal/reflectlite.TypeOf", "internal/reflectlite.ValueOf", "(internal/reflectlite.Value).Type", "(internal/reflectlite.Value).IsNil", "(internal/reflectlite.Value).Elem", "(internal/reflectlite.Value).Set"], unfollowed := true, recurses := true, named := ["bolter/fault.ErrArg", "bolter/fault.ErrLong", "bolter/fault.ErrSyntax", "bolter/fault.ErrDeep", "bolter/fault.ErrMany", "bolter/fault.ErrName", "bolter/fault.ErrDefCycle", "bolter/fault.ErrRepeat", "bolter/fault.ErrTooManyPositions", "bolter/fault.ErrTrail", "bolter/fault.ErrTooManyStates", "bolter/fault.ErrImage", "bolter/fault.ErrModeStack", "bolter/fault.ErrClosed", "bolter/fault.ErrCommand", "bolter/fault.ErrHandle", "errors.errorType"], apart := false, laid := [("errors.errorType", laid_errors_errorType), ("bolter/fault.ErrLong", laid_bolter_fault_ErrLong), ("bolter/fault.ErrSyntax", laid_bolter_fault_ErrSyntax), ("bolter/fault.ErrDeep", laid_bolter_fault_ErrDeep), ("bolter/fault.ErrMany", laid_bolter_fault_ErrMany), ("bolter/fault.ErrName", laid_bolter_fault_ErrName), ("bolter/fault.ErrDefCycle", laid_bolter_fault_ErrDefCycle), ("bolter/fault.ErrRepeat", laid_bolter_fault_ErrRepeat), ("bolter/fault.ErrTooManyPositions", laid_bolter_fault_ErrTooManyPositions), ("bolter/fault.ErrTrail", laid_bolter_fault_ErrTrail), ("bolter/fault.ErrTooManyStates", laid_bolter_fault_ErrTooManyStates), ("bolter/fault.ErrImage", laid_bolter_fault_ErrImage), ("bolter/fault.ErrModeStack", laid_bolter_fault_ErrModeStack), ("bolter/fault.ErrClosed", laid_bolter_fault_ErrClosed), ("bolter/fault.ErrArg", laid_bolter_fault_ErrArg), ("bolter/fault.ErrCommand", laid_bolter_fault_ErrCommand), ("bolter/fault.ErrHandle", laid_bolter_fault_ErrHandle)], narrowed := true }
def WitnessMoreUptoSaid : Prop := witnessMoreUptoRow.holds Tryd.pinned (OpenSpec.upto witnessMoreSpec)

end Rows
end Go.Proofs.YtihginaanlcilaaDoor
