/-
  DERIVED. GIVEN WITH THE SEED: THE CARDS: each row of YthnojechejckpaaDoorRows.lean that lists a variable, with what it lists TIED to the program's text (the seventh form; the later family's looks); each row that meets fmt, with fmt's text TOLD by the authors' own Lean function (tested against real Go, not proved from fmt's source: count such statements apart). THE CARD IS WHAT COUNTS. Prove the row's statement (the work); the ties are given (YthnojechejckpaaDoorTie.lean); close each card by the builder's one call (the guide's Derived/Test/ToyasCard.lean, 'card_holds'). Laid BY PROGRAM, IN A SANDBOX (cutbox-door.mjs). By AI agents, Wed Nov 11 2026. No macro, syntax, notation, axiom, sorry.
-/
import Derived.Test.YthnojechejckpaaDoorRows
import GoSem.ClaimSeven
namespace Go.Proofs.YthnojechejckpaaDoor
namespace Rows

/-- THE TIED CARD OF 'bolterlaw12.LeastOne'. -/
def leastOneCard : Claim7 := { stood := { row := leastOneRow, standIns := [], harness := (true, "603a8c4ab842cf565e1961f062666d8e277c0e798a86c172e20b5fa049e873f0"), looks := false }, kinds := [], alts := [], laidByText := true, laidKinds := [.sentinel], laidTests := true, laidLooks := .later }
def LeastOneCardSaid : Prop := Claim7.holds Tryd.pinned (.plain (OpenSpec.ofChange leastOneSpec)) leastOneCard

/-- THE TIED CARD OF 'bolterlaw13.WitnessFirst'. -/
def witnessFirstCard : Claim7 := { stood := { row := witnessFirstRow, standIns := [], harness := (true, "603a8c4ab842cf565e1961f062666d8e277c0e798a86c172e20b5fa049e873f0"), looks := false }, kinds := [], alts := [], laidByText := true, laidKinds := [.sentinel], laidTests := true, laidLooks := .later }
def WitnessFirstCardSaid : Prop := Claim7.holds Tryd.pinned (.plain (OpenSpec.ofChange witnessFirstSpec)) witnessFirstCard

/-- THE TIED CARD OF 'bolterlaw13.WitnessWords'. -/
def witnessWordsCard : Claim7 := { stood := { row := witnessWordsRow, standIns := [], harness := (true, "603a8c4ab842cf565e1961f062666d8e277c0e798a86c172e20b5fa049e873f0"), looks := false }, kinds := [], alts := [], laidByText := true, laidKinds := [.sentinel], laidTests := true, laidLooks := .later }
def WitnessWordsCardSaid : Prop := Claim7.holds Tryd.pinned (.plain (OpenSpec.ofChange witnessWordsSpec)) witnessWordsCard

/-- THE TIED CARD OF 'bolterlaw13.WitnessClasses'. -/
def witnessClassesCard : Claim7 := { stood := { row := witnessClassesRow, standIns := [], harness := (true, "603a8c4ab842cf565e1961f062666d8e277c0e798a86c172e20b5fa049e873f0"), looks := false }, kinds := [], alts := [], laidByText := true, laidKinds := [.sentinel], laidTests := true, laidLooks := .later }
def WitnessClassesCardSaid : Prop := Claim7.holds Tryd.pinned (.plain (OpenSpec.ofChange witnessClassesSpec)) witnessClassesCard

/-- THE TIED CARD OF 'bolterlaw15.RowsClasses'. -/
def rowsClassesCard : Claim7 := { stood := { row := rowsClassesRow, standIns := [], harness := (true, "603a8c4ab842cf565e1961f062666d8e277c0e798a86c172e20b5fa049e873f0"), looks := false }, kinds := [], alts := [], laidByText := true, laidKinds := [.sentinel], laidTests := true, laidLooks := .later }
def RowsClassesCardSaid : Prop := Claim7.holds Tryd.pinned (.plain (OpenSpec.ofChange rowsClassesSpec)) rowsClassesCard

/-- THE TIED CARD OF 'bolterlaw15.RowsApart'. -/
def rowsApartCard : Claim7 := { stood := { row := rowsApartRow, standIns := [], harness := (true, "603a8c4ab842cf565e1961f062666d8e277c0e798a86c172e20b5fa049e873f0"), looks := false }, kinds := [], alts := [], laidByText := true, laidKinds := [.sentinel], laidTests := true, laidLooks := .later }
def RowsApartCardSaid : Prop := Claim7.holds Tryd.pinned (.plain (OpenSpec.ofChange rowsApartSpec)) rowsApartCard

/-- THE TIED CARD OF 'bolterlaw15.RowsRuns'. -/
def rowsRunsCard : Claim7 := { stood := { row := rowsRunsRow, standIns := [], harness := (true, "603a8c4ab842cf565e1961f062666d8e277c0e798a86c172e20b5fa049e873f0"), looks := false }, kinds := [], alts := [], laidByText := true, laidKinds := [.sentinel], laidTests := true, laidLooks := .later }
def RowsRunsCardSaid : Prop := Claim7.holds Tryd.pinned (.plain (OpenSpec.ofChange rowsRunsSpec)) rowsRunsCard

/-- THE TIED CARD OF 'bolterlaw16.CombEntries'. -/
def combEntriesCard : Claim7 := { stood := { row := combEntriesRow, standIns := [], harness := (true, "603a8c4ab842cf565e1961f062666d8e277c0e798a86c172e20b5fa049e873f0"), looks := false }, kinds := [], alts := [], laidByText := true, laidKinds := [.sentinel], laidTests := true, laidLooks := .later }
def CombEntriesCardSaid : Prop := Claim7.holds Tryd.pinned (.plain (OpenSpec.ofChange combEntriesSpec)) combEntriesCard

/-- THE TIED CARD OF 'bolterlaw16.CombTight'. -/
def combTightCard : Claim7 := { stood := { row := combTightRow, standIns := [], harness := (true, "603a8c4ab842cf565e1961f062666d8e277c0e798a86c172e20b5fa049e873f0"), looks := false }, kinds := [], alts := [], laidByText := true, laidKinds := [.sentinel], laidTests := true, laidLooks := .later }
def CombTightCardSaid : Prop := Claim7.holds Tryd.pinned (.plain (OpenSpec.ofChange combTightSpec)) combTightCard

/-- THE TIED CARD OF 'bolterlaw16.CombGreat'. -/
def combGreatCard : Claim7 := { stood := { row := combGreatRow, standIns := [], harness := (true, "603a8c4ab842cf565e1961f062666d8e277c0e798a86c172e20b5fa049e873f0"), looks := false }, kinds := [], alts := [], laidByText := true, laidKinds := [.sentinel], laidTests := true, laidLooks := .later }
def CombGreatCardSaid : Prop := Claim7.holds Tryd.pinned (.plain (OpenSpec.ofChange combGreatSpec)) combGreatCard

/-- THE SECOND FORM's CARD OF 'bolterlaw12.LeastOne'. -/
def leastOneUptoCard : Claim7 := { stood := { row := leastOneUptoRow, standIns := [], harness := (true, "603a8c4ab842cf565e1961f062666d8e277c0e798a86c172e20b5fa049e873f0"), looks := false }, kinds := [], alts := [], laidByText := true, laidKinds := [.sentinel], laidTests := true, laidLooks := .later }
def LeastOneUptoCardSaid : Prop := Claim7.holds Tryd.pinned (.plain (OpenSpec.upto leastOneSpec)) leastOneUptoCard

/-- THE SECOND FORM's CARD OF 'bolterlaw13.WitnessFirst'. -/
def witnessFirstUptoCard : Claim7 := { stood := { row := witnessFirstUptoRow, standIns := [], harness := (true, "603a8c4ab842cf565e1961f062666d8e277c0e798a86c172e20b5fa049e873f0"), looks := false }, kinds := [], alts := [], laidByText := true, laidKinds := [.sentinel], laidTests := true, laidLooks := .later }
def WitnessFirstUptoCardSaid : Prop := Claim7.holds Tryd.pinned (.plain (OpenSpec.upto witnessFirstSpec)) witnessFirstUptoCard

/-- THE SECOND FORM's CARD OF 'bolterlaw13.WitnessWords'. -/
def witnessWordsUptoCard : Claim7 := { stood := { row := witnessWordsUptoRow, standIns := [], harness := (true, "603a8c4ab842cf565e1961f062666d8e277c0e798a86c172e20b5fa049e873f0"), looks := false }, kinds := [], alts := [], laidByText := true, laidKinds := [.sentinel], laidTests := true, laidLooks := .later }
def WitnessWordsUptoCardSaid : Prop := Claim7.holds Tryd.pinned (.plain (OpenSpec.upto witnessWordsSpec)) witnessWordsUptoCard

/-- THE SECOND FORM's CARD OF 'bolterlaw13.WitnessClasses'. -/
def witnessClassesUptoCard : Claim7 := { stood := { row := witnessClassesUptoRow, standIns := [], harness := (true, "603a8c4ab842cf565e1961f062666d8e277c0e798a86c172e20b5fa049e873f0"), looks := false }, kinds := [], alts := [], laidByText := true, laidKinds := [.sentinel], laidTests := true, laidLooks := .later }
def WitnessClassesUptoCardSaid : Prop := Claim7.holds Tryd.pinned (.plain (OpenSpec.upto witnessClassesSpec)) witnessClassesUptoCard

/-- THE SECOND FORM's CARD OF 'bolterlaw15.RowsClasses'. -/
def rowsClassesUptoCard : Claim7 := { stood := { row := rowsClassesUptoRow, standIns := [], harness := (true, "603a8c4ab842cf565e1961f062666d8e277c0e798a86c172e20b5fa049e873f0"), looks := false }, kinds := [], alts := [], laidByText := true, laidKinds := [.sentinel], laidTests := true, laidLooks := .later }
def RowsClassesUptoCardSaid : Prop := Claim7.holds Tryd.pinned (.plain (OpenSpec.upto rowsClassesSpec)) rowsClassesUptoCard

/-- THE SECOND FORM's CARD OF 'bolterlaw15.RowsApart'. -/
def rowsApartUptoCard : Claim7 := { stood := { row := rowsApartUptoRow, standIns := [], harness := (true, "603a8c4ab842cf565e1961f062666d8e277c0e798a86c172e20b5fa049e873f0"), looks := false }, kinds := [], alts := [], laidByText := true, laidKinds := [.sentinel], laidTests := true, laidLooks := .later }
def RowsApartUptoCardSaid : Prop := Claim7.holds Tryd.pinned (.plain (OpenSpec.upto rowsApartSpec)) rowsApartUptoCard

/-- THE SECOND FORM's CARD OF 'bolterlaw15.RowsRuns'. -/
def rowsRunsUptoCard : Claim7 := { stood := { row := rowsRunsUptoRow, standIns := [], harness := (true, "603a8c4ab842cf565e1961f062666d8e277c0e798a86c172e20b5fa049e873f0"), looks := false }, kinds := [], alts := [], laidByText := true, laidKinds := [.sentinel], laidTests := true, laidLooks := .later }
def RowsRunsUptoCardSaid : Prop := Claim7.holds Tryd.pinned (.plain (OpenSpec.upto rowsRunsSpec)) rowsRunsUptoCard

/-- THE SECOND FORM's CARD OF 'bolterlaw16.CombEntries'. -/
def combEntriesUptoCard : Claim7 := { stood := { row := combEntriesUptoRow, standIns := [], harness := (true, "603a8c4ab842cf565e1961f062666d8e277c0e798a86c172e20b5fa049e873f0"), looks := false }, kinds := [], alts := [], laidByText := true, laidKinds := [.sentinel], laidTests := true, laidLooks := .later }
def CombEntriesUptoCardSaid : Prop := Claim7.holds Tryd.pinned (.plain (OpenSpec.upto combEntriesSpec)) combEntriesUptoCard

/-- THE SECOND FORM's CARD OF 'bolterlaw16.CombTight'. -/
def combTightUptoCard : Claim7 := { stood := { row := combTightUptoRow, standIns := [], harness := (true, "603a8c4ab842cf565e1961f062666d8e277c0e798a86c172e20b5fa049e873f0"), looks := false }, kinds := [], alts := [], laidByText := true, laidKinds := [.sentinel], laidTests := true, laidLooks := .later }
def CombTightUptoCardSaid : Prop := Claim7.holds Tryd.pinned (.plain (OpenSpec.upto combTightSpec)) combTightUptoCard

/-- THE SECOND FORM's CARD OF 'bolterlaw16.CombGreat'. -/
def combGreatUptoCard : Claim7 := { stood := { row := combGreatUptoRow, standIns := [], harness := (true, "603a8c4ab842cf565e1961f062666d8e277c0e798a86c172e20b5fa049e873f0"), looks := false }, kinds := [], alts := [], laidByText := true, laidKinds := [.sentinel], laidTests := true, laidLooks := .later }
def CombGreatUptoCardSaid : Prop := Claim7.holds Tryd.pinned (.plain (OpenSpec.upto combGreatSpec)) combGreatUptoCard
end Rows
end Go.Proofs.YthnojechejckpaaDoor
