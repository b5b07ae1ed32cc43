/-
  NARROWER THAN 'FOR EVERY INPUT', by the rows' own cells (each row's printed sentence says how): WitnessFirst: laid · LeastApart: laid · LeastOne: laid · LeastClasses: laid · LeastLabels: laid · CensusSums: laid · WitnessClasses: laid.
  DERIVED. THE GIVEN ROWS OF THIS SEAT. 7 by the template 'for every input the law returns true; each argument reads behind the call as it read before'; 0 by the template 'total and deterministic' (their statements: YtmacobegnkmmcaaDoorTotals.lean).
  GIVEN WITH THE SEED: the statements are not yours to turn. If you find one false, say at which input.
  Laid BY PROGRAM, IN A SANDBOX (cutbox-rows.mjs): the forced cells as the released guide's own fill.sh prints them over the translation 5967f1668e26817c… (all of the seat's roots in one cut). By AI agents, Wed Nov 11 2026. No macro, syntax, notation, axiom, sorry.
-/
import Derived.Test.YtmacobegnkmmcaaDoorChecked
import GoSem.Claim
import GoSem.ClaimJoined
import GoSem.ClaimMapViews
import Derived.JoinedTies
import Derived.KernelRfl
namespace Go.Proofs.YtmacobegnkmmcaaDoor
/- THE CELL 'sum', in the pinned program and in every row, IS THE sha256 OF THE DUMP (.gsa) THAT YtmacobegnkmmcaaDoorProg.lean LOADS. Nothing in Lean hashes anything: it is a label: what it is worth is what the hold of that sum in a sandbox is worth. -/
noncomputable def Tryd.pinned : Pinned := { name := "ytmacobegnkmmcaadoor", sum := "5967f1668e26817c331d08be5efeaff3ad7e1da392b638e6775b937ded0fb237", checked := Tryd.checked }
namespace Rows
def none {H : Type} : Left H := { results := [], args := [] }

/- WHAT THE LISTED PACKAGE-LEVEL VARIABLES READ AS WHEN THE CALL BEGINS. Each datum BY PROGRAM (the guide's laid-datum.mjs) off the statement by which the dump's own 'gosem.cut.vars' lays the variable. In a bare row this is a premise. The card (YtmacobegnkmmcaaDoorCards.lean) ties it to the program's text. -/
def laid_bolter_fault_ErrArg {H : Type} : DataW H := .iface "*errors.errorString" (.ptr (.agg [.lit (.string [97, 114, 103, 117, 109, 101, 110, 116])]))

/-- 'bolterlaw13.WitnessFirst': WHATEVER THE INPUT: true; the input reads as it did. -/
def witnessFirstSpec : ChangeSpec := { name := "witnessFirst", fn := fun _ => fun
  | [d] => { results := [.lit (.bool true)], args := [d] }
  | _ => none }
def witnessFirstRow : OpenClaim := { program := "ytmacobegnkmmcaadoor", sum := "5967f1668e26817c331d08be5efeaff3ad7e1da392b638e6775b937ded0fb237", func := "bolter/bolterlaw13.WitnessFirst", spec := "witnessFirst", unfollowed := true, recurses := true, named := ["bolter/fault.ErrArg"], plainKeys := false, apart := false, laid := [("bolter/fault.ErrArg", laid_bolter_fault_ErrArg)] }
def WitnessFirstSaid : Prop := witnessFirstRow.holds Tryd.pinned (OpenSpec.ofChange witnessFirstSpec)

/-- ITS FALSE NEIGHBOUR: 'it returns false'. Refute it at one input. -/
def witnessFirstWrong : ChangeSpec := { name := "witnessFirst", fn := fun _ => fun
  | [d] => { results := [.lit (.bool false)], args := [d] }
  | _ => none }
def WitnessFirstWrongFalsely : Prop := witnessFirstRow.holds Tryd.pinned (OpenSpec.ofChange witnessFirstWrong)

/-- 'bolterlaw12.LeastApart': WHATEVER THE INPUT: true; the input reads as it did. -/
def leastApartSpec : ChangeSpec := { name := "leastApart", fn := fun _ => fun
  | [d] => { results := [.lit (.bool true)], args := [d] }
  | _ => none }
def leastApartRow : OpenClaim := { program := "ytmacobegnkmmcaadoor", sum := "5967f1668e26817c331d08be5efeaff3ad7e1da392b638e6775b937ded0fb237", func := "bolter/bolterlaw12.LeastApart", spec := "leastApart", unfollowed := true, recurses := true, named := ["bolter/fault.ErrArg"], plainKeys := false, apart := false, laid := [("bolter/fault.ErrArg", laid_bolter_fault_ErrArg)] }
def LeastApartSaid : Prop := leastApartRow.holds Tryd.pinned (OpenSpec.ofChange leastApartSpec)

/-- ITS FALSE NEIGHBOUR: 'it returns false'. Refute it at one input. -/
def leastApartWrong : ChangeSpec := { name := "leastApart", fn := fun _ => fun
  | [d] => { results := [.lit (.bool false)], args := [d] }
  | _ => none }
def LeastApartWrongFalsely : Prop := leastApartRow.holds Tryd.pinned (OpenSpec.ofChange leastApartWrong)

/-- 'bolterlaw12.LeastOne': WHATEVER THE INPUT: true; the input reads as it did. -/
def leastOneSpec : ChangeSpec := { name := "leastOne", fn := fun _ => fun
  | [d] => { results := [.lit (.bool true)], args := [d] }
  | _ => none }
def leastOneRow : OpenClaim := { program := "ytmacobegnkmmcaadoor", sum := "5967f1668e26817c331d08be5efeaff3ad7e1da392b638e6775b937ded0fb237", func := "bolter/bolterlaw12.LeastOne", spec := "leastOne", unfollowed := true, recurses := true, named := ["bolter/fault.ErrArg"], plainKeys := false, apart := false, laid := [("bolter/fault.ErrArg", laid_bolter_fault_ErrArg)] }
def LeastOneSaid : Prop := leastOneRow.holds Tryd.pinned (OpenSpec.ofChange leastOneSpec)

/-- ITS FALSE NEIGHBOUR: 'it returns false'. Refute it at one input. -/
def leastOneWrong : ChangeSpec := { name := "leastOne", fn := fun _ => fun
  | [d] => { results := [.lit (.bool false)], args := [d] }
  | _ => none }
def LeastOneWrongFalsely : Prop := leastOneRow.holds Tryd.pinned (OpenSpec.ofChange leastOneWrong)

/-- 'bolterlaw12.LeastClasses': WHATEVER THE INPUT: true; the input reads as it did. -/
def leastClassesSpec : ChangeSpec := { name := "leastClasses", fn := fun _ => fun
  | [d] => { results := [.lit (.bool true)], args := [d] }
  | _ => none }
def leastClassesRow : OpenClaim := { program := "ytmacobegnkmmcaadoor", sum := "5967f1668e26817c331d08be5efeaff3ad7e1da392b638e6775b937ded0fb237", func := "bolter/bolterlaw12.LeastClasses", spec := "leastClasses", unfollowed := true, recurses := true, named := ["bolter/fault.ErrArg"], plainKeys := false, apart := false, laid := [("bolter/fault.ErrArg", laid_bolter_fault_ErrArg)] }
def LeastClassesSaid : Prop := leastClassesRow.holds Tryd.pinned (OpenSpec.ofChange leastClassesSpec)

/-- ITS FALSE NEIGHBOUR: 'it returns false'. Refute it at one input. -/
def leastClassesWrong : ChangeSpec := { name := "leastClasses", fn := fun _ => fun
  | [d] => { results := [.lit (.bool false)], args := [d] }
  | _ => none }
def LeastClassesWrongFalsely : Prop := leastClassesRow.holds Tryd.pinned (OpenSpec.ofChange leastClassesWrong)

/-- 'bolterlaw12.LeastLabels': WHATEVER THE INPUT: true; the input reads as it did. -/
def leastLabelsSpec : ChangeSpec := { name := "leastLabels", fn := fun _ => fun
  | [d] => { results := [.lit (.bool true)], args := [d] }
  | _ => none }
def leastLabelsRow : OpenClaim := { program := "ytmacobegnkmmcaadoor", sum := "5967f1668e26817c331d08be5efeaff3ad7e1da392b638e6775b937ded0fb237", func := "bolter/bolterlaw12.LeastLabels", spec := "leastLabels", unfollowed := true, recurses := true, named := ["bolter/fault.ErrArg"], plainKeys := false, apart := false, laid := [("bolter/fault.ErrArg", laid_bolter_fault_ErrArg)] }
def LeastLabelsSaid : Prop := leastLabelsRow.holds Tryd.pinned (OpenSpec.ofChange leastLabelsSpec)

/-- ITS FALSE NEIGHBOUR: 'it returns false'. Refute it at one input. -/
def leastLabelsWrong : ChangeSpec := { name := "leastLabels", fn := fun _ => fun
  | [d] => { results := [.lit (.bool false)], args := [d] }
  | _ => none }
def LeastLabelsWrongFalsely : Prop := leastLabelsRow.holds Tryd.pinned (OpenSpec.ofChange leastLabelsWrong)

/-- 'bolterlaw14.CensusSums': WHATEVER THE INPUT: true; the input reads as it did. -/
def censusSumsSpec : ChangeSpec := { name := "censusSums", fn := fun _ => fun
  | [d] => { results := [.lit (.bool true)], args := [d] }
  | _ => none }
def censusSumsRow : OpenClaim := { program := "ytmacobegnkmmcaadoor", sum := "5967f1668e26817c331d08be5efeaff3ad7e1da392b638e6775b937ded0fb237", func := "bolter/bolterlaw14.CensusSums", spec := "censusSums", unfollowed := true, recurses := true, named := ["bolter/fault.ErrArg"], plainKeys := false, apart := false, laid := [("bolter/fault.ErrArg", laid_bolter_fault_ErrArg)] }
def CensusSumsSaid : Prop := censusSumsRow.holds Tryd.pinned (OpenSpec.ofChange censusSumsSpec)

/-- ITS FALSE NEIGHBOUR: 'it returns false'. Refute it at one input. -/
def censusSumsWrong : ChangeSpec := { name := "censusSums", fn := fun _ => fun
  | [d] => { results := [.lit (.bool false)], args := [d] }
  | _ => none }
def CensusSumsWrongFalsely : Prop := censusSumsRow.holds Tryd.pinned (OpenSpec.ofChange censusSumsWrong)

/-- 'bolterlaw13.WitnessClasses': WHATEVER THE INPUT: true; the input reads as it did. -/
def witnessClassesSpec : ChangeSpec := { name := "witnessClasses", fn := fun _ => fun
  | [d] => { results := [.lit (.bool true)], args := [d] }
  | _ => none }
def witnessClassesRow : OpenClaim := { program := "ytmacobegnkmmcaadoor", sum := "5967f1668e26817c331d08be5efeaff3ad7e1da392b638e6775b937ded0fb237", func := "bolter/bolterlaw13.WitnessClasses", spec := "witnessClasses", unfollowed := true, recurses := true, named := ["bolter/fault.ErrArg"], plainKeys := false, apart := false, laid := [("bolter/fault.ErrArg", laid_bolter_fault_ErrArg)] }
def WitnessClassesSaid : Prop := witnessClassesRow.holds Tryd.pinned (OpenSpec.ofChange witnessClassesSpec)

/-- ITS FALSE NEIGHBOUR: 'it returns false'. Refute it at one input. -/
def witnessClassesWrong : ChangeSpec := { name := "witnessClasses", fn := fun _ => fun
  | [d] => { results := [.lit (.bool false)], args := [d] }
  | _ => none }
def WitnessClassesWrongFalsely : Prop := witnessClassesRow.holds Tryd.pinned (OpenSpec.ofChange witnessClassesWrong)

/- THE SECOND FORM. 'bulk': how many values and letters a reading holds, each counted each time it is reached (what is shared counts as often as it is met; a slice's spare places count too). A statement '..UptoSaid' is the law's where the arguments, and the package variables that the reading takes, are together of bulk at most 1048576: NARROWER than '..Said'. Prove '..Said' where nothing that the law and all that it calls make is longer than what came in: it says more and counts as full. Else prove '..UptoSaid'. A law counts once. -/
mutual
def uptoBulk {H : Type} : DataW H → Nat
  | .lit (.string bytes) => bytes.length + 1
  | .lit _ => 1
  | .nil => 1
  | .ptr d => uptoBulk d + 1
  | .slice elems spare => uptoBulkAll elems + uptoBulkAll spare + 1
  | .agg parts => uptoBulkAll parts + 1
  | .iface _ d => uptoBulk d + 1
  | .map entries => uptoBulkEntries entries + 1
  | .held _ => 1
def uptoBulkAll {H : Type} : List (DataW H) → Nat
  | [] => 0
  | d :: r => uptoBulk d + uptoBulkAll r
def uptoBulkEntries {H : Type} : List (Lit × DataW H) → Nat
  | [] => 0
  | x :: r => uptoBulkEntry x + uptoBulkEntries r
def uptoBulkEntry {H : Type} : Lit × DataW H → Nat
  | (.string bytes, d) => bytes.length + uptoBulk d + 1
  | (_, d) => uptoBulk d + 1
 end
def uptoSmall : (H : Type) → List (DataW H) → Bool := fun _ ds => decide (uptoBulkAll ds ≤ 1048576)
def OpenSpec.upto (s : _root_.Go.ChangeSpec) : _root_.Go.OpenSpec := { _root_.Go.OpenSpec.ofChange s with cond := some uptoSmall }

/-- 'bolterlaw13.WitnessFirst', WHERE WHAT IT READS IS OF BULK AT MOST 1048576: true; the input reads as it did. -/
def witnessFirstUptoRow : OpenClaim := { program := "ytmacobegnkmmcaadoor", sum := "5967f1668e26817c331d08be5efeaff3ad7e1da392b638e6775b937ded0fb237", func := "bolter/bolterlaw13.WitnessFirst", spec := "witnessFirst", unfollowed := true, recurses := true, named := ["bolter/fault.ErrArg"], plainKeys := false, apart := false, laid := [("bolter/fault.ErrArg", laid_bolter_fault_ErrArg)], narrowed := true }
def WitnessFirstUptoSaid : Prop := witnessFirstUptoRow.holds Tryd.pinned (OpenSpec.upto witnessFirstSpec)

/-- 'bolterlaw12.LeastApart', WHERE WHAT IT READS IS OF BULK AT MOST 1048576: true; the input reads as it did. -/
def leastApartUptoRow : OpenClaim := { program := "ytmacobegnkmmcaadoor", sum := "5967f1668e26817c331d08be5efeaff3ad7e1da392b638e6775b937ded0fb237", func := "bolter/bolterlaw12.LeastApart", spec := "leastApart", unfollowed := true, recurses := true, named := ["bolter/fault.ErrArg"], plainKeys := false, apart := false, laid := [("bolter/fault.ErrArg", laid_bolter_fault_ErrArg)], narrowed := true }
def LeastApartUptoSaid : Prop := leastApartUptoRow.holds Tryd.pinned (OpenSpec.upto leastApartSpec)

/-- 'bolterlaw12.LeastOne', WHERE WHAT IT READS IS OF BULK AT MOST 1048576: true; the input reads as it did. -/
def leastOneUptoRow : OpenClaim := { program := "ytmacobegnkmmcaadoor", sum := "5967f1668e26817c331d08be5efeaff3ad7e1da392b638e6775b937ded0fb237", func := "bolter/bolterlaw12.LeastOne", spec := "leastOne", unfollowed := true, recurses := true, named := ["bolter/fault.ErrArg"], plainKeys := false, apart := false, laid := [("bolter/fault.ErrArg", laid_bolter_fault_ErrArg)], narrowed := true }
def LeastOneUptoSaid : Prop := leastOneUptoRow.holds Tryd.pinned (OpenSpec.upto leastOneSpec)

/-- 'bolterlaw12.LeastClasses', WHERE WHAT IT READS IS OF BULK AT MOST 1048576: true; the input reads as it did. -/
def leastClassesUptoRow : OpenClaim := { program := "ytmacobegnkmmcaadoor", sum := "5967f1668e26817c331d08be5efeaff3ad7e1da392b638e6775b937ded0fb237", func := "bolter/bolterlaw12.LeastClasses", spec := "leastClasses", unfollowed := true, recurses := true, named := ["bolter/fault.ErrArg"], plainKeys := false, apart := false, laid := [("bolter/fault.ErrArg", laid_bolter_fault_ErrArg)], narrowed := true }
def LeastClassesUptoSaid : Prop := leastClassesUptoRow.holds Tryd.pinned (OpenSpec.upto leastClassesSpec)

/-- 'bolterlaw12.LeastLabels', WHERE WHAT IT READS IS OF BULK AT MOST 1048576: true; the input reads as it did. -/
def leastLabelsUptoRow : OpenClaim := { program := "ytmacobegnkmmcaadoor", sum := "5967f1668e26817c331d08be5efeaff3ad7e1da392b638e6775b937ded0fb237", func := "bolter/bolterlaw12.LeastLabels", spec := "leastLabels", unfollowed := true, recurses := true, named := ["bolter/fault.ErrArg"], plainKeys := false, apart := false, laid := [("bolter/fault.ErrArg", laid_bolter_fault_ErrArg)], narrowed := true }
def LeastLabelsUptoSaid : Prop := leastLabelsUptoRow.holds Tryd.pinned (OpenSpec.upto leastLabelsSpec)

/-- 'bolterlaw14.CensusSums', WHERE WHAT IT READS IS OF BULK AT MOST 1048576: true; the input reads as it did. -/
def censusSumsUptoRow : OpenClaim := { program := "ytmacobegnkmmcaadoor", sum := "5967f1668e26817c331d08be5efeaff3ad7e1da392b638e6775b937ded0fb237", func := "bolter/bolterlaw14.CensusSums", spec := "censusSums", unfollowed := true, recurses := true, named := ["bolter/fault.ErrArg"], plainKeys := false, apart := false, laid := [("bolter/fault.ErrArg", laid_bolter_fault_ErrArg)], narrowed := true }
def CensusSumsUptoSaid : Prop := censusSumsUptoRow.holds Tryd.pinned (OpenSpec.upto censusSumsSpec)

/-- 'bolterlaw13.WitnessClasses', WHERE WHAT IT READS IS OF BULK AT MOST 1048576: true; the input reads as it did. -/
def witnessClassesUptoRow : OpenClaim := { program := "ytmacobegnkmmcaadoor", sum := "5967f1668e26817c331d08be5efeaff3ad7e1da392b638e6775b937ded0fb237", func := "bolter/bolterlaw13.WitnessClasses", spec := "witnessClasses", unfollowed := true, recurses := true, named := ["bolter/fault.ErrArg"], plainKeys := false, apart := false, laid := [("bolter/fault.ErrArg", laid_bolter_fault_ErrArg)], narrowed := true }
def WitnessClassesUptoSaid : Prop := witnessClassesUptoRow.holds Tryd.pinned (OpenSpec.upto witnessClassesSpec)

end Rows
end Go.Proofs.YtmacobegnkmmcaaDoor
