/-
  DERIVED. GIVEN WITH THE SEED: THE CARDS: each row of YtngbaaiocoobdaaDoorRows.lean that lists a variable, with what it lists TIED to the program's text (the seventh form; the later family's looks); each row that meets fmt, with fmt's text TOLD by the authors' own Lean function (tested against real Go, not proved from fmt's source: count such statements apart). THE CARD IS WHAT COUNTS. Prove the row's statement (the work); the ties are given (YtngbaaiocoobdaaDoorTie.lean); close each card by the builder's one call (the guide's Derived/Test/ToyasCard.lean, 'card_holds'). Laid BY PROGRAM, IN A SANDBOX (cutbox-door.mjs). By AI agents, Wed Nov 11 2026. No macro, syntax, notation, axiom, sorry.
-/
import Derived.Test.YtngbaaiocoobdaaDoorRows
import GoSem.ClaimSeven
namespace Go.Proofs.YtngbaaiocoobdaaDoor
namespace Rows

/-- THE TIED CARD OF 'bolterlaw13.WitnessWords'. -/
def witnessWordsCard : Claim7 := { stood := { row := witnessWordsRow, standIns := [], harness := (true, "6cdb17b7b18275cc357419a0b0bd462ad2c4001d14218b7eafde25b8bc6a285a"), looks := true }, kinds := [], alts := [], laidByText := true, laidKinds := [.sentinel], laidTests := true, laidLooks := .later }
def WitnessWordsCardSaid : Prop := Claim7.holds Tryd.pinned (.plain (OpenSpec.ofChange witnessWordsSpec)) witnessWordsCard

/-- THE TIED CARD OF 'bolterlaw15.RowsClasses'. -/
def rowsClassesCard : Claim7 := { stood := { row := rowsClassesRow, standIns := [], harness := (true, "6cdb17b7b18275cc357419a0b0bd462ad2c4001d14218b7eafde25b8bc6a285a"), looks := true }, kinds := [], alts := [], laidByText := true, laidKinds := [.sentinel], laidTests := true, laidLooks := .later }
def RowsClassesCardSaid : Prop := Claim7.holds Tryd.pinned (.plain (OpenSpec.ofChange rowsClassesSpec)) rowsClassesCard

/-- THE TIED CARD OF 'bolterlaw15.RowsApart'. -/
def rowsApartCard : Claim7 := { stood := { row := rowsApartRow, standIns := [], harness := (true, "6cdb17b7b18275cc357419a0b0bd462ad2c4001d14218b7eafde25b8bc6a285a"), looks := true }, kinds := [], alts := [], laidByText := true, laidKinds := [.sentinel], laidTests := true, laidLooks := .later }
def RowsApartCardSaid : Prop := Claim7.holds Tryd.pinned (.plain (OpenSpec.ofChange rowsApartSpec)) rowsApartCard

/-- THE TIED CARD OF 'bolterlaw15.RowsRuns'. -/
def rowsRunsCard : Claim7 := { stood := { row := rowsRunsRow, standIns := [], harness := (true, "6cdb17b7b18275cc357419a0b0bd462ad2c4001d14218b7eafde25b8bc6a285a"), looks := true }, kinds := [], alts := [], laidByText := true, laidKinds := [.sentinel], laidTests := true, laidLooks := .later }
def RowsRunsCardSaid : Prop := Claim7.holds Tryd.pinned (.plain (OpenSpec.ofChange rowsRunsSpec)) rowsRunsCard

/-- THE TIED CARD OF 'bolterlaw16.CombEntries'. -/
def combEntriesCard : Claim7 := { stood := { row := combEntriesRow, standIns := [], harness := (true, "6cdb17b7b18275cc357419a0b0bd462ad2c4001d14218b7eafde25b8bc6a285a"), looks := true }, kinds := [], alts := [], laidByText := true, laidKinds := [.sentinel], laidTests := true, laidLooks := .later }
def CombEntriesCardSaid : Prop := Claim7.holds Tryd.pinned (.plain (OpenSpec.ofChange combEntriesSpec)) combEntriesCard

/-- THE TIED CARD OF 'bolterlaw16.CombTight'. -/
def combTightCard : Claim7 := { stood := { row := combTightRow, standIns := [], harness := (true, "6cdb17b7b18275cc357419a0b0bd462ad2c4001d14218b7eafde25b8bc6a285a"), looks := true }, kinds := [], alts := [], laidByText := true, laidKinds := [.sentinel], laidTests := true, laidLooks := .later }
def CombTightCardSaid : Prop := Claim7.holds Tryd.pinned (.plain (OpenSpec.ofChange combTightSpec)) combTightCard

/-- THE TIED CARD OF 'bolterlaw16.CombGreat'. -/
def combGreatCard : Claim7 := { stood := { row := combGreatRow, standIns := [], harness := (true, "6cdb17b7b18275cc357419a0b0bd462ad2c4001d14218b7eafde25b8bc6a285a"), looks := true }, kinds := [], alts := [], laidByText := true, laidKinds := [.sentinel], laidTests := true, laidLooks := .later }
def CombGreatCardSaid : Prop := Claim7.holds Tryd.pinned (.plain (OpenSpec.ofChange combGreatSpec)) combGreatCard

/-- THE TIED CARD OF 'bolterlaw15.RowsExact'. -/
def rowsExactCard : Claim7 := { stood := { row := rowsExactRow, standIns := [], harness := (true, "6cdb17b7b18275cc357419a0b0bd462ad2c4001d14218b7eafde25b8bc6a285a"), looks := true }, kinds := [], alts := [], laidByText := true, laidKinds := [.handle, .sentinel, .sentinel, .sentinel, .sentinel, .sentinel, .sentinel, .sentinel, .sentinel, .sentinel, .sentinel, .sentinel, .sentinel, .sentinel, .sentinel, .sentinel, .sentinel], laidTests := true, laidLooks := .later }
def RowsExactCardSaid : Prop := Claim7.holds Tryd.pinned (.plain (OpenSpec.ofChange rowsExactSpec)) rowsExactCard

/-- THE TIED CARD OF 'bolterlaw15.RowsChecks'. -/
def rowsChecksCard : Claim7 := { stood := { row := rowsChecksRow, standIns := [], harness := (true, "6cdb17b7b18275cc357419a0b0bd462ad2c4001d14218b7eafde25b8bc6a285a"), looks := true }, kinds := [], alts := [], laidByText := true, laidKinds := [.handle, .sentinel, .sentinel, .sentinel, .sentinel, .sentinel, .sentinel, .sentinel, .sentinel, .sentinel, .sentinel, .sentinel, .sentinel, .sentinel, .sentinel, .sentinel, .sentinel], laidTests := true, laidLooks := .later }
def RowsChecksCardSaid : Prop := Claim7.holds Tryd.pinned (.plain (OpenSpec.ofChange rowsChecksSpec)) rowsChecksCard

/-- THE SECOND FORM's CARD OF 'bolterlaw13.WitnessWords'. -/
def witnessWordsUptoCard : Claim7 := { stood := { row := witnessWordsUptoRow, standIns := [], harness := (true, "6cdb17b7b18275cc357419a0b0bd462ad2c4001d14218b7eafde25b8bc6a285a"), looks := true }, kinds := [], alts := [], laidByText := true, laidKinds := [.sentinel], laidTests := true, laidLooks := .later }
def WitnessWordsUptoCardSaid : Prop := Claim7.holds Tryd.pinned (.plain (OpenSpec.upto witnessWordsSpec)) witnessWordsUptoCard

/-- THE SECOND FORM's CARD OF 'bolterlaw15.RowsClasses'. -/
def rowsClassesUptoCard : Claim7 := { stood := { row := rowsClassesUptoRow, standIns := [], harness := (true, "6cdb17b7b18275cc357419a0b0bd462ad2c4001d14218b7eafde25b8bc6a285a"), looks := true }, kinds := [], alts := [], laidByText := true, laidKinds := [.sentinel], laidTests := true, laidLooks := .later }
def RowsClassesUptoCardSaid : Prop := Claim7.holds Tryd.pinned (.plain (OpenSpec.upto rowsClassesSpec)) rowsClassesUptoCard

/-- THE SECOND FORM's CARD OF 'bolterlaw15.RowsApart'. -/
def rowsApartUptoCard : Claim7 := { stood := { row := rowsApartUptoRow, standIns := [], harness := (true, "6cdb17b7b18275cc357419a0b0bd462ad2c4001d14218b7eafde25b8bc6a285a"), looks := true }, kinds := [], alts := [], laidByText := true, laidKinds := [.sentinel], laidTests := true, laidLooks := .later }
def RowsApartUptoCardSaid : Prop := Claim7.holds Tryd.pinned (.plain (OpenSpec.upto rowsApartSpec)) rowsApartUptoCard

/-- THE SECOND FORM's CARD OF 'bolterlaw15.RowsRuns'. -/
def rowsRunsUptoCard : Claim7 := { stood := { row := rowsRunsUptoRow, standIns := [], harness := (true, "6cdb17b7b18275cc357419a0b0bd462ad2c4001d14218b7eafde25b8bc6a285a"), looks := true }, kinds := [], alts := [], laidByText := true, laidKinds := [.sentinel], laidTests := true, laidLooks := .later }
def RowsRunsUptoCardSaid : Prop := Claim7.holds Tryd.pinned (.plain (OpenSpec.upto rowsRunsSpec)) rowsRunsUptoCard

/-- THE SECOND FORM's CARD OF 'bolterlaw16.CombEntries'. -/
def combEntriesUptoCard : Claim7 := { stood := { row := combEntriesUptoRow, standIns := [], harness := (true, "6cdb17b7b18275cc357419a0b0bd462ad2c4001d14218b7eafde25b8bc6a285a"), looks := true }, kinds := [], alts := [], laidByText := true, laidKinds := [.sentinel], laidTests := true, laidLooks := .later }
def CombEntriesUptoCardSaid : Prop := Claim7.holds Tryd.pinned (.plain (OpenSpec.upto combEntriesSpec)) combEntriesUptoCard

/-- THE SECOND FORM's CARD OF 'bolterlaw16.CombTight'. -/
def combTightUptoCard : Claim7 := { stood := { row := combTightUptoRow, standIns := [], harness := (true, "6cdb17b7b18275cc357419a0b0bd462ad2c4001d14218b7eafde25b8bc6a285a"), looks := true }, kinds := [], alts := [], laidByText := true, laidKinds := [.sentinel], laidTests := true, laidLooks := .later }
def CombTightUptoCardSaid : Prop := Claim7.holds Tryd.pinned (.plain (OpenSpec.upto combTightSpec)) combTightUptoCard

/-- THE SECOND FORM's CARD OF 'bolterlaw16.CombGreat'. -/
def combGreatUptoCard : Claim7 := { stood := { row := combGreatUptoRow, standIns := [], harness := (true, "6cdb17b7b18275cc357419a0b0bd462ad2c4001d14218b7eafde25b8bc6a285a"), looks := true }, kinds := [], alts := [], laidByText := true, laidKinds := [.sentinel], laidTests := true, laidLooks := .later }
def CombGreatUptoCardSaid : Prop := Claim7.holds Tryd.pinned (.plain (OpenSpec.upto combGreatSpec)) combGreatUptoCard

/-- THE SECOND FORM's CARD OF 'bolterlaw15.RowsExact'. -/
def rowsExactUptoCard : Claim7 := { stood := { row := rowsExactUptoRow, standIns := [], harness := (true, "6cdb17b7b18275cc357419a0b0bd462ad2c4001d14218b7eafde25b8bc6a285a"), looks := true }, kinds := [], alts := [], laidByText := true, laidKinds := [.handle, .sentinel, .sentinel, .sentinel, .sentinel, .sentinel, .sentinel, .sentinel, .sentinel, .sentinel, .sentinel, .sentinel, .sentinel, .sentinel, .sentinel, .sentinel, .sentinel], laidTests := true, laidLooks := .later }
def RowsExactUptoCardSaid : Prop := Claim7.holds Tryd.pinned (.plain (OpenSpec.upto rowsExactSpec)) rowsExactUptoCard

/-- THE SECOND FORM's CARD OF 'bolterlaw15.RowsChecks'. -/
def rowsChecksUptoCard : Claim7 := { stood := { row := rowsChecksUptoRow, standIns := [], harness := (true, "6cdb17b7b18275cc357419a0b0bd462ad2c4001d14218b7eafde25b8bc6a285a"), looks := true }, kinds := [], alts := [], laidByText := true, laidKinds := [.handle, .sentinel, .sentinel, .sentinel, .sentinel, .sentinel, .sentinel, .sentinel, .sentinel, .sentinel, .sentinel, .sentinel, .sentinel, .sentinel, .sentinel, .sentinel, .sentinel], laidTests := true, laidLooks := .later }
def RowsChecksUptoCardSaid : Prop := Claim7.holds Tryd.pinned (.plain (OpenSpec.upto rowsChecksSpec)) rowsChecksUptoCard
end Rows
end Go.Proofs.YtngbaaiocoobdaaDoor
