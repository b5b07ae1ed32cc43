/-
  DERIVED. GIVEN WITH THE SEED: THE CARDS: each row of YtloooajippcdlaaDoorRows.lean that lists a variable, with what it lists TIED to the program's text (the seventh form; the later family's looks); each row that meets fmt, with fmt's text TOLD by the authors' own Lean function (tested against real Go, not proved from fmt's source: count such statements apart). THE CARD IS WHAT COUNTS. Prove the row's statement (the work); the ties are given (YtloooajippcdlaaDoorTie.lean); close each card by the builder's one call (the guide's Derived/Test/ToyasCard.lean, 'card_holds'). Laid BY PROGRAM, IN A SANDBOX (cutbox-door.mjs). By AI agents, Wed Nov 11 2026. No macro, syntax, notation, axiom, sorry.
-/
import Derived.Test.YtloooajippcdlaaDoorRows
import GoSem.ClaimSeven
namespace Go.Proofs.YtloooajippcdlaaDoor
namespace Rows

/-- THE TIED CARD OF 'bolterlaw13.WitnessWords'. -/
def witnessWordsCard : Claim7 := { stood := { row := witnessWordsRow, standIns := [], harness := (true, "c92844617f267f9b12f07b3b44cb8fb9e66738e4d5ea6af1904458a85f4641f1"), looks := true }, kinds := [], alts := [], laidByText := true, laidKinds := [.sentinel], laidTests := true, laidLooks := .later }
def WitnessWordsCardSaid : Prop := Claim7.holds Tryd.pinned (.plain (OpenSpec.ofChange witnessWordsSpec)) witnessWordsCard

/-- THE TIED CARD OF 'bolterlaw14.CensusExact'. -/
def censusExactCard : Claim7 := { stood := { row := censusExactRow, standIns := [], harness := (true, "c92844617f267f9b12f07b3b44cb8fb9e66738e4d5ea6af1904458a85f4641f1"), looks := true }, kinds := [], alts := [], laidByText := true, laidKinds := [.handle, .sentinel, .sentinel, .sentinel, .sentinel, .sentinel, .sentinel, .sentinel, .sentinel, .sentinel, .sentinel, .sentinel, .sentinel, .sentinel, .sentinel, .sentinel, .sentinel], laidTests := true, laidLooks := .later }
def CensusExactCardSaid : Prop := Claim7.holds Tryd.pinned (.plain (OpenSpec.ofChange censusExactSpec)) censusExactCard

/-- THE TIED CARD OF 'bolterlaw13.WitnessMore'. -/
def witnessMoreCard : Claim7 := { stood := { row := witnessMoreRow, standIns := [], harness := (true, "c92844617f267f9b12f07b3b44cb8fb9e66738e4d5ea6af1904458a85f4641f1"), looks := true }, kinds := [], alts := [], laidByText := true, laidKinds := [.handle, .sentinel, .sentinel, .sentinel, .sentinel, .sentinel, .sentinel, .sentinel, .sentinel, .sentinel, .sentinel, .sentinel, .sentinel, .sentinel, .sentinel, .sentinel, .sentinel], laidTests := true, laidLooks := .later }
def WitnessMoreCardSaid : Prop := Claim7.holds Tryd.pinned (.plain (OpenSpec.ofChange witnessMoreSpec)) witnessMoreCard

/-- THE TIED CARD OF 'bolterlaw15.RowsExact'. -/
def rowsExactCard : Claim7 := { stood := { row := rowsExactRow, standIns := [], harness := (true, "c92844617f267f9b12f07b3b44cb8fb9e66738e4d5ea6af1904458a85f4641f1"), looks := true }, kinds := [], alts := [], laidByText := true, laidKinds := [.handle, .sentinel, .sentinel, .sentinel, .sentinel, .sentinel, .sentinel, .sentinel, .sentinel, .sentinel, .sentinel, .sentinel, .sentinel, .sentinel, .sentinel, .sentinel, .sentinel], laidTests := true, laidLooks := .later }
def RowsExactCardSaid : Prop := Claim7.holds Tryd.pinned (.plain (OpenSpec.ofChange rowsExactSpec)) rowsExactCard

/-- THE SECOND FORM's CARD OF 'bolterlaw13.WitnessWords'. -/
def witnessWordsUptoCard : Claim7 := { stood := { row := witnessWordsUptoRow, standIns := [], harness := (true, "c92844617f267f9b12f07b3b44cb8fb9e66738e4d5ea6af1904458a85f4641f1"), looks := true }, kinds := [], alts := [], laidByText := true, laidKinds := [.sentinel], laidTests := true, laidLooks := .later }
def WitnessWordsUptoCardSaid : Prop := Claim7.holds Tryd.pinned (.plain (OpenSpec.upto witnessWordsSpec)) witnessWordsUptoCard

/-- THE SECOND FORM's CARD OF 'bolterlaw14.CensusExact'. -/
def censusExactUptoCard : Claim7 := { stood := { row := censusExactUptoRow, standIns := [], harness := (true, "c92844617f267f9b12f07b3b44cb8fb9e66738e4d5ea6af1904458a85f4641f1"), looks := true }, kinds := [], alts := [], laidByText := true, laidKinds := [.handle, .sentinel, .sentinel, .sentinel, .sentinel, .sentinel, .sentinel, .sentinel, .sentinel, .sentinel, .sentinel, .sentinel, .sentinel, .sentinel, .sentinel, .sentinel, .sentinel], laidTests := true, laidLooks := .later }
def CensusExactUptoCardSaid : Prop := Claim7.holds Tryd.pinned (.plain (OpenSpec.upto censusExactSpec)) censusExactUptoCard

/-- THE SECOND FORM's CARD OF 'bolterlaw13.WitnessMore'. -/
def witnessMoreUptoCard : Claim7 := { stood := { row := witnessMoreUptoRow, standIns := [], harness := (true, "c92844617f267f9b12f07b3b44cb8fb9e66738e4d5ea6af1904458a85f4641f1"), looks := true }, kinds := [], alts := [], laidByText := true, laidKinds := [.handle, .sentinel, .sentinel, .sentinel, .sentinel, .sentinel, .sentinel, .sentinel, .sentinel, .sentinel, .sentinel, .sentinel, .sentinel, .sentinel, .sentinel, .sentinel, .sentinel], laidTests := true, laidLooks := .later }
def WitnessMoreUptoCardSaid : Prop := Claim7.holds Tryd.pinned (.plain (OpenSpec.upto witnessMoreSpec)) witnessMoreUptoCard

/-- THE SECOND FORM's CARD OF 'bolterlaw15.RowsExact'. -/
def rowsExactUptoCard : Claim7 := { stood := { row := rowsExactUptoRow, standIns := [], harness := (true, "c92844617f267f9b12f07b3b44cb8fb9e66738e4d5ea6af1904458a85f4641f1"), looks := true }, kinds := [], alts := [], laidByText := true, laidKinds := [.handle, .sentinel, .sentinel, .sentinel, .sentinel, .sentinel, .sentinel, .sentinel, .sentinel, .sentinel, .sentinel, .sentinel, .sentinel, .sentinel, .sentinel, .sentinel, .sentinel], laidTests := true, laidLooks := .later }
def RowsExactUptoCardSaid : Prop := Claim7.holds Tryd.pinned (.plain (OpenSpec.upto rowsExactSpec)) rowsExactUptoCard
end Rows
end Go.Proofs.YtloooajippcdlaaDoor
