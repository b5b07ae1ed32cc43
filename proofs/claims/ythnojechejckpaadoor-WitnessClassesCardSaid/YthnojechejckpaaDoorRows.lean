/-
  NARROWER THAN 'FOR EVERY INPUT', by the rows' own cells (each row's printed sentence says how): LeastOne: laid · WitnessFirst: laid · WitnessWords: laid · WitnessClasses: laid · RowsClasses: laid · RowsApart: laid · RowsRuns: laid · CombEntries: laid · CombTight: laid · CombGreat: laid.
  DERIVED. THE GIVEN ROWS OF THIS SEAT. 10 by the template 'for every input the law returns true; each argument reads behind the call as it read before'; 0 by the template 'total and deterministic' (their statements: YthnojechejckpaaDoorTotals.lean).
  GIVEN WITH THE SEED: the statements are not yours to turn. If you find one false, say at which input.
  Laid BY PROGRAM, IN A SANDBOX (cutbox-rows.mjs): the forced cells as the released guide's own fill.sh prints them over the translation 374fdd052c3d1dff… (all of the seat's roots in one cut). By AI agents, Wed Nov 11 2026. No macro, syntax, notation, axiom, sorry.
-/
import Derived.Test.YthnojechejckpaaDoorChecked
import GoSem.Claim
import GoSem.ClaimJoined
import GoSem.ClaimMapViews
import Derived.JoinedTies
import Derived.KernelRfl
namespace Go.Proofs.YthnojechejckpaaDoor
/- THE CELL 'sum', in the pinned program and in every row, IS THE sha256 OF THE DUMP (.gsa) THAT YthnojechejckpaaDoorProg.lean LOADS. Nothing in Lean hashes anything: it is a label: what it is worth is what the hold of that sum in a sandbox is worth. -/
noncomputable def Tryd.pinned : Pinned := { name := "ythnojechejckpaadoor", sum := "374fdd052c3d1dffdd1dcf3d9c0498e67e2744e3ab49bec3f98bfaf326ff7842", checked := Tryd.checked }
namespace Rows
def none {H : Type} : Left H := { results := [], args := [] }

/- WHAT THE LISTED PACKAGE-LEVEL VARIABLES READ AS WHEN THE CALL BEGINS. Each datum BY PROGRAM (the guide's laid-datum.mjs) off the statement by which the dump's own 'gosem.cut.vars' lays the variable. In a bare row this is a premise. The card (YthnojechejckpaaDoorCards.lean) ties it to the program's text. -/
def laid_bolter_fault_ErrArg {H : Type} : DataW H := .iface "*errors.errorString" (.ptr (.agg [.lit (.string [97, 114, 103, 117, 109, 101, 110, 116])]))

/-- 'bolterlaw12.LeastOne': WHATEVER THE INPUT: true; the input reads as it did. -/
def leastOneSpec : ChangeSpec := { name := "leastOne", fn := fun _ => fun
  | [d] => { results := [.lit (.bool true)], args := [d] }
  | _ => none }
def leastOneRow : OpenClaim := { program := "ythnojechejckpaadoor", sum := "374fdd052c3d1dffdd1dcf3d9c0498e67e2744e3ab49bec3f98bfaf326ff7842", func := "bolter/bolterlaw12.LeastOne", spec := "leastOne", unfollowed := true, recurses := true, named := ["bolter/fault.ErrArg"], plainKeys := false, apart := false, laid := [("bolter/fault.ErrArg", laid_bolter_fault_ErrArg)] }
def LeastOneSaid : Prop := leastOneRow.holds Tryd.pinned (OpenSpec.ofChange leastOneSpec)

/-- ITS FALSE NEIGHBOUR: 'it returns false'. Refute it at one input. -/
def leastOneWrong : ChangeSpec := { name := "leastOne", fn := fun _ => fun
  | [d] => { results := [.lit (.bool false)], args := [d] }
  | _ => none }
def LeastOneWrongFalsely : Prop := leastOneRow.holds Tryd.pinned (OpenSpec.ofChange leastOneWrong)

/-- 'bolterlaw13.WitnessFirst': WHATEVER THE INPUT: true; the input reads as it did. -/
def witnessFirstSpec : ChangeSpec := { name := "witnessFirst", fn := fun _ => fun
  | [d] => { results := [.lit (.bool true)], args := [d] }
  | _ => none }
def witnessFirstRow : OpenClaim := { program := "ythnojechejckpaadoor", sum := "374fdd052c3d1dffdd1dcf3d9c0498e67e2744e3ab49bec3f98bfaf326ff7842", func := "bolter/bolterlaw13.WitnessFirst", spec := "witnessFirst", unfollowed := true, recurses := true, named := ["bolter/fault.ErrArg"], plainKeys := false, apart := false, laid := [("bolter/fault.ErrArg", laid_bolter_fault_ErrArg)] }
def WitnessFirstSaid : Prop := witnessFirstRow.holds Tryd.pinned (OpenSpec.ofChange witnessFirstSpec)

/-- ITS FALSE NEIGHBOUR: 'it returns false'. Refute it at one input. -/
def witnessFirstWrong : ChangeSpec := { name := "witnessFirst", fn := fun _ => fun
  | [d] => { results := [.lit (.bool false)], args := [d] }
  | _ => none }
def WitnessFirstWrongFalsely : Prop := witnessFirstRow.holds Tryd.pinned (OpenSpec.ofChange witnessFirstWrong)

/-- 'bolterlaw13.WitnessWords': WHATEVER THE INPUT: true; the input reads as it did. -/
def witnessWordsSpec : ChangeSpec := { name := "witnessWords", fn := fun _ => fun
  | [d] => { results := [.lit (.bool true)], args := [d] }
  | _ => none }
def witnessWordsRow : OpenClaim := { program := "ythnojechejckpaadoor", sum := "374fdd052c3d1dffdd1dcf3d9c0498e67e2744e3ab49bec3f98bfaf326ff7842", func := "bolter/bolterlaw13.WitnessWords", spec := "witnessWords", unfollowed := true, recurses := true, named := ["bolter/fault.ErrArg"], plainKeys := false, apart := false, laid := [("bolter/fault.ErrArg", laid_bolter_fault_ErrArg)] }
def WitnessWordsSaid : Prop := witnessWordsRow.holds Tryd.pinned (OpenSpec.ofChange witnessWordsSpec)

/-- ITS FALSE NEIGHBOUR: 'it returns false'. Refute it at one input. -/
def witnessWordsWrong : ChangeSpec := { name := "witnessWords", fn := fun _ => fun
  | [d] => { results := [.lit (.bool false)], args := [d] }
  | _ => none }
def WitnessWordsWrongFalsely : Prop := witnessWordsRow.holds Tryd.pinned (OpenSpec.ofChange witnessWordsWrong)

/-- 'bolterlaw13.WitnessClasses': WHATEVER THE INPUT: true; the input reads as it did. -/
def witnessClassesSpec : ChangeSpec := { name := "witnessClasses", fn := fun _ => fun
  | [d] => { results := [.lit (.bool true)], args := [d] }
  | _ => none }
def witnessClassesRow : OpenClaim := { program := "ythnojechejckpaadoor", sum := "374fdd052c3d1dffdd1dcf3d9c0498e67e2744e3ab49bec3f98bfaf326ff7842", func := "bolter/bolterlaw13.WitnessClasses", spec := "witnessClasses", unfollowed := true, recurses := true, named := ["bolter/fault.ErrArg"], plainKeys := false, apart := false, laid := [("bolter/fault.ErrArg", laid_bolter_fault_ErrArg)] }
def WitnessClassesSaid : Prop := witnessClassesRow.holds Tryd.pinned (OpenSpec.ofChange witnessClassesSpec)

/-- ITS FALSE NEIGHBOUR: 'it returns false'. Refute it at one input. -/
def witnessClassesWrong : ChangeSpec := { name := "witnessClasses", fn := fun _ => fun
  | [d] => { results := [.lit (.bool false)], args := [d] }
  | _ => none }
def WitnessClassesWrongFalsely : Prop := witnessClassesRow.holds Tryd.pinned (OpenSpec.ofChange witnessClassesWrong)

/-- 'bolterlaw15.RowsClasses': WHATEVER THE INPUT: true; the input reads as it did. -/
def rowsClassesSpec : ChangeSpec := { name := "rowsClasses", fn := fun _ => fun
  | [d] => { results := [.lit (.bool true)], args := [d] }
  | _ => none }
def rowsClassesRow : OpenClaim := { program := "ythnojechejckpaadoor", sum := "374fdd052c3d1dffdd1dcf3d9c0498e67e2744e3ab49bec3f98bfaf326ff7842", func := "bolter/bolterlaw15.RowsClasses", spec := "rowsClasses", unfollowed := true, recurses := true, named := ["bolter/fault.ErrArg"], plainKeys := false, apart := false, laid := [("bolter/fault.ErrArg", laid_bolter_fault_ErrArg)] }
def RowsClassesSaid : Prop := rowsClassesRow.holds Tryd.pinned (OpenSpec.ofChange rowsClassesSpec)

/-- ITS FALSE NEIGHBOUR: 'it returns false'. Refute it at one input. -/
def rowsClassesWrong : ChangeSpec := { name := "rowsClasses", fn := fun _ => fun
  | [d] => { results := [.lit (.bool false)], args := [d] }
  | _ => none }
def RowsClassesWrongFalsely : Prop := rowsClassesRow.holds Tryd.pinned (OpenSpec.ofChange rowsClassesWrong)

/-- 'bolterlaw15.RowsApart': WHATEVER THE INPUT: true; the input reads as it did. -/
def rowsApartSpec : ChangeSpec := { name := "rowsApart", fn := fun _ => fun
  | [d] => { results := [.lit (.bool true)], args := [d] }
  | _ => none }
def rowsApartRow : OpenClaim := { program := "ythnojechejckpaadoor", sum := "374fdd052c3d1dffdd1dcf3d9c0498e67e2744e3ab49bec3f98bfaf326ff7842", func := "bolter/bolterlaw15.RowsApart", spec := "rowsApart", unfollowed := true, recurses := true, named := ["bolter/fault.ErrArg"], plainKeys := false, apart := false, laid := [("bolter/fault.ErrArg", laid_bolter_fault_ErrArg)] }
def RowsApartSaid : Prop := rowsApartRow.holds Tryd.pinned (OpenSpec.ofChange rowsApartSpec)

/-- ITS FALSE NEIGHBOUR: 'it returns false'. Refute it at one input. -/
def rowsApartWrong : ChangeSpec := { name := "rowsApart", fn := fun _ => fun
  | [d] => { results := [.lit (.bool false)], args := [d] }
  | _ => none }
def RowsApartWrongFalsely : Prop := rowsApartRow.holds Tryd.pinned (OpenSpec.ofChange rowsApartWrong)

/-- 'bolterlaw15.RowsRuns': WHATEVER THE INPUT: true; the input reads as it did. -/
def rowsRunsSpec : ChangeSpec := { name := "rowsRuns", fn := fun _ => fun
  | [d] => { results := [.lit (.bool true)], args := [d] }
  | _ => none }
def rowsRunsRow : OpenClaim := { program := "ythnojechejckpaadoor", sum := "374fdd052c3d1dffdd1dcf3d9c0498e67e2744e3ab49bec3f98bfaf326ff7842", func := "bolter/bolterlaw15.RowsRuns", spec := "rowsRuns", unfollowed := true, recurses := true, named := ["bolter/fault.ErrArg"], plainKeys := false, apart := false, laid := [("bolter/fault.ErrArg", laid_bolter_fault_ErrArg)] }
def RowsRunsSaid : Prop := rowsRunsRow.holds Tryd.pinned (OpenSpec.ofChange rowsRunsSpec)

/-- ITS FALSE NEIGHBOUR: 'it returns false'. Refute it at one input. -/
def rowsRunsWrong : ChangeSpec := { name := "rowsRuns", fn := fun _ => fun
  | [d] => { results := [.lit (.bool false)], args := [d] }
  | _ => none }
def RowsRunsWrongFalsely : Prop := rowsRunsRow.holds Tryd.pinned (OpenSpec.ofChange rowsRunsWrong)

/-- 'bolterlaw16.CombEntries': WHATEVER THE INPUT: true; the input reads as it did. -/
def combEntriesSpec : ChangeSpec := { name := "combEntries", fn := fun _ => fun
  | [d] => { results := [.lit (.bool true)], args := [d] }
  | _ => none }
def combEntriesRow : OpenClaim := { program := "ythnojechejckpaadoor", sum := "374fdd052c3d1dffdd1dcf3d9c0498e67e2744e3ab49bec3f98bfaf326ff7842", func := "bolter/bolterlaw16.CombEntries", spec := "combEntries", unfollowed := true, recurses := true, named := ["bolter/fault.ErrArg"], plainKeys := false, apart := false, laid := [("bolter/fault.ErrArg", laid_bolter_fault_ErrArg)] }
def CombEntriesSaid : Prop := combEntriesRow.holds Tryd.pinned (OpenSpec.ofChange combEntriesSpec)

/-- ITS FALSE NEIGHBOUR: 'it returns false'. Refute it at one input. -/
def combEntriesWrong : ChangeSpec := { name := "combEntries", fn := fun _ => fun
  | [d] => { results := [.lit (.bool false)], args := [d] }
  | _ => none }
def CombEntriesWrongFalsely : Prop := combEntriesRow.holds Tryd.pinned (OpenSpec.ofChange combEntriesWrong)

/-- 'bolterlaw16.CombTight': WHATEVER THE INPUT: true; the input reads as it did. -/
def combTightSpec : ChangeSpec := { name := "combTight", fn := fun _ => fun
  | [d] => { results := [.lit (.bool true)], args := [d] }
  | _ => none }
def combTightRow : OpenClaim := { program := "ythnojechejckpaadoor", sum := "374fdd052c3d1dffdd1dcf3d9c0498e67e2744e3ab49bec3f98bfaf326ff7842", func := "bolter/bolterlaw16.CombTight", spec := "combTight", unfollowed := true, recurses := true, named := ["bolter/fault.ErrArg"], plainKeys := false, apart := false, laid := [("bolter/fault.ErrArg", laid_bolter_fault_ErrArg)] }
def CombTightSaid : Prop := combTightRow.holds Tryd.pinned (OpenSpec.ofChange combTightSpec)

/-- ITS FALSE NEIGHBOUR: 'it returns false'. Refute it at one input. -/
def combTightWrong : ChangeSpec := { name := "combTight", fn := fun _ => fun
  | [d] => { results := [.lit (.bool false)], args := [d] }
  | _ => none }
def CombTightWrongFalsely : Prop := combTightRow.holds Tryd.pinned (OpenSpec.ofChange combTightWrong)

/-- 'bolterlaw16.CombGreat': WHATEVER THE INPUT: true; the input reads as it did. -/
def combGreatSpec : ChangeSpec := { name := "combGreat", fn := fun _ => fun
  | [] => { results := [.lit (.bool true)], args := [] }
  | _ => none }
def combGreatRow : OpenClaim := { program := "ythnojechejckpaadoor", sum := "374fdd052c3d1dffdd1dcf3d9c0498e67e2744e3ab49bec3f98bfaf326ff7842", func := "bolter/bolterlaw16.CombGreat", spec := "combGreat", unfollowed := true, recurses := true, named := ["bolter/fault.ErrArg"], plainKeys := false, apart := false, laid := [("bolter/fault.ErrArg", laid_bolter_fault_ErrArg)] }
def CombGreatSaid : Prop := combGreatRow.holds Tryd.pinned (OpenSpec.ofChange combGreatSpec)

/-- ITS FALSE NEIGHBOUR: 'it returns false'. Refute it at one input. -/
def combGreatWrong : ChangeSpec := { name := "combGreat", fn := fun _ => fun
  | [] => { results := [.lit (.bool false)], args := [] }
  | _ => none }
def CombGreatWrongFalsely : Prop := combGreatRow.holds Tryd.pinned (OpenSpec.ofChange combGreatWrong)

/- THE SECOND FORM. 'bulk': how many values and letters a reading holds, each counted each time it is reached (what is shared counts as often as it is met; a slice's spare places count too). A statement '..UptoSaid' is the law's where the arguments, and the package variables that the reading takes, are together of bulk at most 1048576: NARROWER than '..Said'. Prove '..Said' where nothing that the law and all that it calls make is longer than what came in: it says more and counts as full. Else prove '..UptoSaid'. A law counts once. -/
mutual
def uptoBulk {H : Type} : DataW H → Nat
  | .lit (.string bytes) => bytes.length + 1
  | .lit _ => 1
  | .nil => 1
  | .ptr d => uptoBulk d + 1
  | .slice elems spare => uptoBulkAll elems + uptoBulkAll spare + 1
  | .agg parts => uptoBulkAll parts + 1
  | .iface _ d => uptoBulk d + 1
  | .map entries => uptoBulkEntries entries + 1
  | .held _ => 1
def uptoBulkAll {H : Type} : List (DataW H) → Nat
  | [] => 0
  | d :: r => uptoBulk d + uptoBulkAll r
def uptoBulkEntries {H : Type} : List (Lit × DataW H) → Nat
  | [] => 0
  | x :: r => uptoBulkEntry x + uptoBulkEntries r
def uptoBulkEntry {H : Type} : Lit × DataW H → Nat
  | (.string bytes, d) => bytes.length + uptoBulk d + 1
  | (_, d) => uptoBulk d + 1
 end
def uptoSmall : (H : Type) → List (DataW H) → Bool := fun _ ds => decide (uptoBulkAll ds ≤ 1048576)
def OpenSpec.upto (s : _root_.Go.ChangeSpec) : _root_.Go.OpenSpec := { _root_.Go.OpenSpec.ofChange s with cond := some uptoSmall }

/-- 'bolterlaw12.LeastOne', WHERE WHAT IT READS IS OF BULK AT MOST 1048576: true; the input reads as it did. -/
def leastOneUptoRow : OpenClaim := { program := "ythnojechejckpaadoor", sum := "374fdd052c3d1dffdd1dcf3d9c0498e67e2744e3ab49bec3f98bfaf326ff7842", func := "bolter/bolterlaw12.LeastOne", spec := "leastOne", unfollowed := true, recurses := true, named := ["bolter/fault.ErrArg"], plainKeys := false, apart := false, laid := [("bolter/fault.ErrArg", laid_bolter_fault_ErrArg)], narrowed := true }
def LeastOneUptoSaid : Prop := leastOneUptoRow.holds Tryd.pinned (OpenSpec.upto leastOneSpec)

/-- 'bolterlaw13.WitnessFirst', WHERE WHAT IT READS IS OF BULK AT MOST 1048576: true; the input reads as it did. -/
def witnessFirstUptoRow : OpenClaim := { program := "ythnojechejckpaadoor", sum := "374fdd052c3d1dffdd1dcf3d9c0498e67e2744e3ab49bec3f98bfaf326ff7842", func := "bolter/bolterlaw13.WitnessFirst", spec := "witnessFirst", unfollowed := true, recurses := true, named := ["bolter/fault.ErrArg"], plainKeys := false, apart := false, laid := [("bolter/fault.ErrArg", laid_bolter_fault_ErrArg)], narrowed := true }
def WitnessFirstUptoSaid : Prop := witnessFirstUptoRow.holds Tryd.pinned (OpenSpec.upto witnessFirstSpec)

/-- 'bolterlaw13.WitnessWords', WHERE WHAT IT READS IS OF BULK AT MOST 1048576: true; the input reads as it did. -/
def witnessWordsUptoRow : OpenClaim := { program := "ythnojechejckpaadoor", sum := "374fdd052c3d1dffdd1dcf3d9c0498e67e2744e3ab49bec3f98bfaf326ff7842", func := "bolter/bolterlaw13.WitnessWords", spec := "witnessWords", unfollowed := true, recurses := true, named := ["bolter/fault.ErrArg"], plainKeys := false, apart := false, laid := [("bolter/fault.ErrArg", laid_bolter_fault_ErrArg)], narrowed := true }
def WitnessWordsUptoSaid : Prop := witnessWordsUptoRow.holds Tryd.pinned (OpenSpec.upto witnessWordsSpec)

/-- 'bolterlaw13.WitnessClasses', WHERE WHAT IT READS IS OF BULK AT MOST 1048576: true; the input reads as it did. -/
def witnessClassesUptoRow : OpenClaim := { program := "ythnojechejckpaadoor", sum := "374fdd052c3d1dffdd1dcf3d9c0498e67e2744e3ab49bec3f98bfaf326ff7842", func := "bolter/bolterlaw13.WitnessClasses", spec := "witnessClasses", unfollowed := true, recurses := true, named := ["bolter/fault.ErrArg"], plainKeys := false, apart := false, laid := [("bolter/fault.ErrArg", laid_bolter_fault_ErrArg)], narrowed := true }
def WitnessClassesUptoSaid : Prop := witnessClassesUptoRow.holds Tryd.pinned (OpenSpec.upto witnessClassesSpec)

/-- 'bolterlaw15.RowsClasses', WHERE WHAT IT READS IS OF BULK AT MOST 1048576: true; the input reads as it did. -/
def rowsClassesUptoRow : OpenClaim := { program := "ythnojechejckpaadoor", sum := "374fdd052c3d1dffdd1dcf3d9c0498e67e2744e3ab49bec3f98bfaf326ff7842", func := "bolter/bolterlaw15.RowsClasses", spec := "rowsClasses", unfollowed := true, recurses := true, named := ["bolter/fault.ErrArg"], plainKeys := false, apart := false, laid := [("bolter/fault.ErrArg", laid_bolter_fault_ErrArg)], narrowed := true }
def RowsClassesUptoSaid : Prop := rowsClassesUptoRow.holds Tryd.pinned (OpenSpec.upto rowsClassesSpec)

/-- 'bolterlaw15.RowsApart', WHERE WHAT IT READS IS OF BULK AT MOST 1048576: true; the input reads as it did. -/
def rowsApartUptoRow : OpenClaim := { program := "ythnojechejckpaadoor", sum := "374fdd052c3d1dffdd1dcf3d9c0498e67e2744e3ab49bec3f98bfaf326ff7842", func := "bolter/bolterlaw15.RowsApart", spec := "rowsApart", unfollowed := true, recurses := true, named := ["bolter/fault.ErrArg"], plainKeys := false, apart := false, laid := [("bolter/fault.ErrArg", laid_bolter_fault_ErrArg)], narrowed := true }
def RowsApartUptoSaid : Prop := rowsApartUptoRow.holds Tryd.pinned (OpenSpec.upto rowsApartSpec)

/-- 'bolterlaw15.RowsRuns', WHERE WHAT IT READS IS OF BULK AT MOST 1048576: true; the input reads as it did. -/
def rowsRunsUptoRow : OpenClaim := { program := "ythnojechejckpaadoor", sum := "374fdd052c3d1dffdd1dcf3d9c0498e67e2744e3ab49bec3f98bfaf326ff7842", func := "bolter/bolterlaw15.RowsRuns", spec := "rowsRuns", unfollowed := true, recurses := true, named := ["bolter/fault.ErrArg"], plainKeys := false, apart := false, laid := [("bolter/fault.ErrArg", laid_bolter_fault_ErrArg)], narrowed := true }
def RowsRunsUptoSaid : Prop := rowsRunsUptoRow.holds Tryd.pinned (OpenSpec.upto rowsRunsSpec)

/-- 'bolterlaw16.CombEntries', WHERE WHAT IT READS IS OF BULK AT MOST 1048576: true; the input reads as it did. -/
def combEntriesUptoRow : OpenClaim := { program := "ythnojechejckpaadoor", sum := "374fdd052c3d1dffdd1dcf3d9c0498e67e2744e3ab49bec3f98bfaf326ff7842", func := "bolter/bolterlaw16.CombEntries", spec := "combEntries", unfollowed := true, recurses := true, named := ["bolter/fault.ErrArg"], plainKeys := false, apart := false, laid := [("bolter/fault.ErrArg", laid_bolter_fault_ErrArg)], narrowed := true }
def CombEntriesUptoSaid : Prop := combEntriesUptoRow.holds Tryd.pinned (OpenSpec.upto combEntriesSpec)

/-- 'bolterlaw16.CombTight', WHERE WHAT IT READS IS OF BULK AT MOST 1048576: true; the input reads as it did. -/
def combTightUptoRow : OpenClaim := { program := "ythnojechejckpaadoor", sum := "374fdd052c3d1dffdd1dcf3d9c0498e67e2744e3ab49bec3f98bfaf326ff7842", func := "bolter/bolterlaw16.CombTight", spec := "combTight", unfollowed := true, recurses := true, named := ["bolter/fault.ErrArg"], plainKeys := false, apart := false, laid := [("bolter/fault.ErrArg", laid_bolter_fault_ErrArg)], narrowed := true }
def CombTightUptoSaid : Prop := combTightUptoRow.holds Tryd.pinned (OpenSpec.upto combTightSpec)

/-- 'bolterlaw16.CombGreat', WHERE WHAT IT READS IS OF BULK AT MOST 1048576: true; the input reads as it did. -/
def combGreatUptoRow : OpenClaim := { program := "ythnojechejckpaadoor", sum := "374fdd052c3d1dffdd1dcf3d9c0498e67e2744e3ab49bec3f98bfaf326ff7842", func := "bolter/bolterlaw16.CombGreat", spec := "combGreat", unfollowed := true, recurses := true, named := ["bolter/fault.ErrArg"], plainKeys := false, apart := false, laid := [("bolter/fault.ErrArg", laid_bolter_fault_ErrArg)], narrowed := true }
def CombGreatUptoSaid : Prop := combGreatUptoRow.holds Tryd.pinned (OpenSpec.upto combGreatSpec)

end Rows
end Go.Proofs.YthnojechejckpaaDoor
