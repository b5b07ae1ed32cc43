/-
  DERIVED. GIVEN WITH THE SEED: THE CARDS: each row of YtihginaanlcilaaDoorRows.lean that lists a variable, with what it lists TIED to the program's text (the seventh form; the later family's looks); each row that meets fmt, with fmt's text TOLD by the authors' own Lean function (tested against real Go, not proved from fmt's source: count such statements apart). THE CARD IS WHAT COUNTS. Prove the row's statement (the work); the ties are given (YtihginaanlcilaaDoorTie.lean); close each card by the builder's one call (the guide's Derived/Test/ToyasCard.lean, 'card_holds'). Laid BY PROGRAM, IN A SANDBOX (cutbox-door.mjs). By AI agents, Wed Nov 11 2026. No macro, syntax, notation, axiom, sorry.
-/
import Derived.Test.YtihginaanlcilaaDoorRows
import GoSem.ClaimSeven
namespace Go.Proofs.YtihginaanlcilaaDoor
namespace Rows

/-- THE TIED CARD OF 'bolterlaw13.WitnessWords'. -/
def witnessWordsCard : Claim7 := { stood := { row := witnessWordsRow, standIns := [], harness := (true, "52efb9dbe4669ca71709583826f615a8bd3ce68fa5c4189fd8331fa22aaeeba8"), looks := true }, kinds := [], alts := [], laidByText := true, laidKinds := [.sentinel], laidTests := true, laidLooks := .later }
def WitnessWordsCardSaid : Prop := Claim7.holds Tryd.pinned (.plain (OpenSpec.ofChange witnessWordsSpec)) witnessWordsCard

/-- THE TIED CARD OF 'bolterlaw13.WitnessExact'. -/
def witnessExactCard : Claim7 := { stood := { row := witnessExactRow, standIns := [], harness := (true, "52efb9dbe4669ca71709583826f615a8bd3ce68fa5c4189fd8331fa22aaeeba8"), looks := true }, kinds := [], alts := [], laidByText := true, laidKinds := [.handle, .sentinel, .sentinel, .sentinel, .sentinel, .sentinel, .sentinel, .sentinel, .sentinel, .sentinel, .sentinel, .sentinel, .sentinel, .sentinel, .sentinel, .sentinel, .sentinel], laidTests := true, laidLooks := .later }
def WitnessExactCardSaid : Prop := Claim7.holds Tryd.pinned (.plain (OpenSpec.ofChange witnessExactSpec)) witnessExactCard

/-- THE TIED CARD OF 'bolterlaw13.WitnessMore'. -/
def witnessMoreCard : Claim7 := { stood := { row := witnessMoreRow, standIns := [], harness := (true, "52efb9dbe4669ca71709583826f615a8bd3ce68fa5c4189fd8331fa22aaeeba8"), looks := true }, kinds := [], alts := [], laidByText := true, laidKinds := [.handle, .sentinel, .sentinel, .sentinel, .sentinel, .sentinel, .sentinel, .sentinel, .sentinel, .sentinel, .sentinel, .sentinel, .sentinel, .sentinel, .sentinel, .sentinel, .sentinel], laidTests := true, laidLooks := .later }
def WitnessMoreCardSaid : Prop := Claim7.holds Tryd.pinned (.plain (OpenSpec.ofChange witnessMoreSpec)) witnessMoreCard

/-- THE SECOND FORM's CARD OF 'bolterlaw13.WitnessWords'. -/
def witnessWordsUptoCard : Claim7 := { stood := { row := witnessWordsUptoRow, standIns := [], harness := (true, "52efb9dbe4669ca71709583826f615a8bd3ce68fa5c4189fd8331fa22aaeeba8"), looks := true }, kinds := [], alts := [], laidByText := true, laidKinds := [.sentinel], laidTests := true, laidLooks := .later }
def WitnessWordsUptoCardSaid : Prop := Claim7.holds Tryd.pinned (.plain (OpenSpec.upto witnessWordsSpec)) witnessWordsUptoCard

/-- THE SECOND FORM's CARD OF 'bolterlaw13.WitnessExact'. -/
def witnessExactUptoCard : Claim7 := { stood := { row := witnessExactUptoRow, standIns := [], harness := (true, "52efb9dbe4669ca71709583826f615a8bd3ce68fa5c4189fd8331fa22aaeeba8"), looks := true }, kinds := [], alts := [], laidByText := true, laidKinds := [.handle, .sentinel, .sentinel, .sentinel, .sentinel, .sentinel, .sentinel, .sentinel, .sentinel, .sentinel, .sentinel, .sentinel, .sentinel, .sentinel, .sentinel, .sentinel, .sentinel], laidTests := true, laidLooks := .later }
def WitnessExactUptoCardSaid : Prop := Claim7.holds Tryd.pinned (.plain (OpenSpec.upto witnessExactSpec)) witnessExactUptoCard

/-- THE SECOND FORM's CARD OF 'bolterlaw13.WitnessMore'. -/
def witnessMoreUptoCard : Claim7 := { stood := { row := witnessMoreUptoRow, standIns := [], harness := (true, "52efb9dbe4669ca71709583826f615a8bd3ce68fa5c4189fd8331fa22aaeeba8"), looks := true }, kinds := [], alts := [], laidByText := true, laidKinds := [.handle, .sentinel, .sentinel, .sentinel, .sentinel, .sentinel, .sentinel, .sentinel, .sentinel, .sentinel, .sentinel, .sentinel, .sentinel, .sentinel, .sentinel, .sentinel, .sentinel], laidTests := true, laidLooks := .later }
def WitnessMoreUptoCardSaid : Prop := Claim7.holds Tryd.pinned (.plain (OpenSpec.upto witnessMoreSpec)) witnessMoreUptoCard
end Rows
end Go.Proofs.YtihginaanlcilaaDoor
