/-
  DERIVED. GIVEN WITH THE SEED: THE CARDS: each row of YtpkngnompkdlnaaDoorRows.lean that lists a variable, with what it lists TIED to the program's text (the seventh form; the later family's looks); each row that meets fmt, with fmt's text TOLD by the authors' own Lean function (tested against real Go, not proved from fmt's source: count such statements apart). THE CARD IS WHAT COUNTS. Prove the row's statement (the work); the ties are given (YtpkngnompkdlnaaDoorTie.lean); close each card by the builder's one call (the guide's Derived/Test/ToyasCard.lean, 'card_holds'). Laid BY PROGRAM, IN A SANDBOX (cutbox-door.mjs). By AI agents, Wed Nov 11 2026. No macro, syntax, notation, axiom, sorry.
-/
import Derived.Test.YtpkngnompkdlnaaDoorRows
import GoSem.ClaimSeven
namespace Go.Proofs.YtpkngnompkdlnaaDoor
namespace Rows

/-- THE TIED CARD OF 'bolterlaw14.CensusBack'. -/
def censusBackCard : Claim7 := { stood := { row := censusBackRow, standIns := [], harness := (true, "f14100170e8520a56070a1925147d65e5972e57729667f9a624ec774bf441680"), looks := true }, kinds := [], alts := [], laidByText := true, laidKinds := [.sentinel], laidTests := true, laidLooks := .later }
def CensusBackCardSaid : Prop := Claim7.holds Tryd.pinned (.plain (OpenSpec.ofChange censusBackSpec)) censusBackCard

/-- THE TIED CARD OF 'bolterlaw14.CensusSteps'. -/
def censusStepsCard : Claim7 := { stood := { row := censusStepsRow, standIns := [], harness := (true, "f14100170e8520a56070a1925147d65e5972e57729667f9a624ec774bf441680"), looks := true }, kinds := [], alts := [], laidByText := true, laidKinds := [.sentinel], laidTests := true, laidLooks := .later }
def CensusStepsCardSaid : Prop := Claim7.holds Tryd.pinned (.plain (OpenSpec.ofChange censusStepsSpec)) censusStepsCard

/-- THE TIED CARD OF 'bolterlaw14.CensusGreat'. -/
def censusGreatCard : Claim7 := { stood := { row := censusGreatRow, standIns := [], harness := (true, "f14100170e8520a56070a1925147d65e5972e57729667f9a624ec774bf441680"), looks := true }, kinds := [], alts := [], laidByText := true, laidKinds := [.sentinel], laidTests := true, laidLooks := .later }
def CensusGreatCardSaid : Prop := Claim7.holds Tryd.pinned (.plain (OpenSpec.ofChange censusGreatSpec)) censusGreatCard

/-- THE TIED CARD OF 'bolterlaw13.WitnessFirst'. -/
def witnessFirstCard : Claim7 := { stood := { row := witnessFirstRow, standIns := [], harness := (true, "f14100170e8520a56070a1925147d65e5972e57729667f9a624ec774bf441680"), looks := true }, kinds := [], alts := [], laidByText := true, laidKinds := [.sentinel], laidTests := true, laidLooks := .later }
def WitnessFirstCardSaid : Prop := Claim7.holds Tryd.pinned (.plain (OpenSpec.ofChange witnessFirstSpec)) witnessFirstCard

/-- THE TIED CARD OF 'bolterlaw12.LeastApart'. -/
def leastApartCard : Claim7 := { stood := { row := leastApartRow, standIns := [], harness := (true, "f14100170e8520a56070a1925147d65e5972e57729667f9a624ec774bf441680"), looks := true }, kinds := [], alts := [], laidByText := true, laidKinds := [.sentinel], laidTests := true, laidLooks := .later }
def LeastApartCardSaid : Prop := Claim7.holds Tryd.pinned (.plain (OpenSpec.ofChange leastApartSpec)) leastApartCard

/-- THE TIED CARD OF 'bolterlaw12.LeastOne'. -/
def leastOneCard : Claim7 := { stood := { row := leastOneRow, standIns := [], harness := (true, "f14100170e8520a56070a1925147d65e5972e57729667f9a624ec774bf441680"), looks := true }, kinds := [], alts := [], laidByText := true, laidKinds := [.sentinel], laidTests := true, laidLooks := .later }
def LeastOneCardSaid : Prop := Claim7.holds Tryd.pinned (.plain (OpenSpec.ofChange leastOneSpec)) leastOneCard

/-- THE TIED CARD OF 'bolterlaw12.LeastClasses'. -/
def leastClassesCard : Claim7 := { stood := { row := leastClassesRow, standIns := [], harness := (true, "f14100170e8520a56070a1925147d65e5972e57729667f9a624ec774bf441680"), looks := true }, kinds := [], alts := [], laidByText := true, laidKinds := [.sentinel], laidTests := true, laidLooks := .later }
def LeastClassesCardSaid : Prop := Claim7.holds Tryd.pinned (.plain (OpenSpec.ofChange leastClassesSpec)) leastClassesCard

/-- THE TIED CARD OF 'bolterlaw12.LeastLabels'. -/
def leastLabelsCard : Claim7 := { stood := { row := leastLabelsRow, standIns := [], harness := (true, "f14100170e8520a56070a1925147d65e5972e57729667f9a624ec774bf441680"), looks := true }, kinds := [], alts := [], laidByText := true, laidKinds := [.sentinel], laidTests := true, laidLooks := .later }
def LeastLabelsCardSaid : Prop := Claim7.holds Tryd.pinned (.plain (OpenSpec.ofChange leastLabelsSpec)) leastLabelsCard

/-- THE TIED CARD OF 'bolterlaw13.WitnessWords'. -/
def witnessWordsCard : Claim7 := { stood := { row := witnessWordsRow, standIns := [], harness := (true, "f14100170e8520a56070a1925147d65e5972e57729667f9a624ec774bf441680"), looks := true }, kinds := [], alts := [], laidByText := true, laidKinds := [.sentinel], laidTests := true, laidLooks := .later }
def WitnessWordsCardSaid : Prop := Claim7.holds Tryd.pinned (.plain (OpenSpec.ofChange witnessWordsSpec)) witnessWordsCard

/-- THE TIED CARD OF 'bolterlaw15.RowsClasses'. -/
def rowsClassesCard : Claim7 := { stood := { row := rowsClassesRow, standIns := [], harness := (true, "f14100170e8520a56070a1925147d65e5972e57729667f9a624ec774bf441680"), looks := true }, kinds := [], alts := [], laidByText := true, laidKinds := [.sentinel], laidTests := true, laidLooks := .later }
def RowsClassesCardSaid : Prop := Claim7.holds Tryd.pinned (.plain (OpenSpec.ofChange rowsClassesSpec)) rowsClassesCard

/-- THE TIED CARD OF 'bolterlaw15.RowsApart'. -/
def rowsApartCard : Claim7 := { stood := { row := rowsApartRow, standIns := [], harness := (true, "f14100170e8520a56070a1925147d65e5972e57729667f9a624ec774bf441680"), looks := true }, kinds := [], alts := [], laidByText := true, laidKinds := [.sentinel], laidTests := true, laidLooks := .later }
def RowsApartCardSaid : Prop := Claim7.holds Tryd.pinned (.plain (OpenSpec.ofChange rowsApartSpec)) rowsApartCard

/-- THE TIED CARD OF 'bolterlaw15.RowsRuns'. -/
def rowsRunsCard : Claim7 := { stood := { row := rowsRunsRow, standIns := [], harness := (true, "f14100170e8520a56070a1925147d65e5972e57729667f9a624ec774bf441680"), looks := true }, kinds := [], alts := [], laidByText := true, laidKinds := [.sentinel], laidTests := true, laidLooks := .later }
def RowsRunsCardSaid : Prop := Claim7.holds Tryd.pinned (.plain (OpenSpec.ofChange rowsRunsSpec)) rowsRunsCard

/-- THE TIED CARD OF 'bolterlaw14.CensusSums'. -/
def censusSumsCard : Claim7 := { stood := { row := censusSumsRow, standIns := [], harness := (true, "f14100170e8520a56070a1925147d65e5972e57729667f9a624ec774bf441680"), looks := true }, kinds := [], alts := [], laidByText := true, laidKinds := [.sentinel], laidTests := true, laidLooks := .later }
def CensusSumsCardSaid : Prop := Claim7.holds Tryd.pinned (.plain (OpenSpec.ofChange censusSumsSpec)) censusSumsCard

/-- THE TIED CARD OF 'bolterlaw13.WitnessClasses'. -/
def witnessClassesCard : Claim7 := { stood := { row := witnessClassesRow, standIns := [], harness := (true, "f14100170e8520a56070a1925147d65e5972e57729667f9a624ec774bf441680"), looks := true }, kinds := [], alts := [], laidByText := true, laidKinds := [.sentinel], laidTests := true, laidLooks := .later }
def WitnessClassesCardSaid : Prop := Claim7.holds Tryd.pinned (.plain (OpenSpec.ofChange witnessClassesSpec)) witnessClassesCard

/-- THE TIED CARD OF 'bolterlaw16.CombEntries'. -/
def combEntriesCard : Claim7 := { stood := { row := combEntriesRow, standIns := [], harness := (true, "f14100170e8520a56070a1925147d65e5972e57729667f9a624ec774bf441680"), looks := true }, kinds := [], alts := [], laidByText := true, laidKinds := [.sentinel], laidTests := true, laidLooks := .later }
def CombEntriesCardSaid : Prop := Claim7.holds Tryd.pinned (.plain (OpenSpec.ofChange combEntriesSpec)) combEntriesCard

/-- THE TIED CARD OF 'bolterlaw16.CombTight'. -/
def combTightCard : Claim7 := { stood := { row := combTightRow, standIns := [], harness := (true, "f14100170e8520a56070a1925147d65e5972e57729667f9a624ec774bf441680"), looks := true }, kinds := [], alts := [], laidByText := true, laidKinds := [.sentinel], laidTests := true, laidLooks := .later }
def CombTightCardSaid : Prop := Claim7.holds Tryd.pinned (.plain (OpenSpec.ofChange combTightSpec)) combTightCard

/-- THE TIED CARD OF 'bolterlaw16.CombGreat'. -/
def combGreatCard : Claim7 := { stood := { row := combGreatRow, standIns := [], harness := (true, "f14100170e8520a56070a1925147d65e5972e57729667f9a624ec774bf441680"), looks := true }, kinds := [], alts := [], laidByText := true, laidKinds := [.sentinel], laidTests := true, laidLooks := .later }
def CombGreatCardSaid : Prop := Claim7.holds Tryd.pinned (.plain (OpenSpec.ofChange combGreatSpec)) combGreatCard

/-- THE TIED CARD OF 'bolterlaw14.CensusExact'. -/
def censusExactCard : Claim7 := { stood := { row := censusExactRow, standIns := [], harness := (true, "f14100170e8520a56070a1925147d65e5972e57729667f9a624ec774bf441680"), looks := true }, kinds := [], alts := [], laidByText := true, laidKinds := [.handle, .sentinel, .sentinel, .sentinel, .sentinel, .sentinel, .sentinel, .sentinel, .sentinel, .sentinel, .sentinel, .sentinel, .sentinel, .sentinel, .sentinel, .sentinel, .sentinel], laidTests := true, laidLooks := .later }
def CensusExactCardSaid : Prop := Claim7.holds Tryd.pinned (.plain (OpenSpec.ofChange censusExactSpec)) censusExactCard

/-- THE TIED CARD OF 'bolterlaw13.WitnessExact'. -/
def witnessExactCard : Claim7 := { stood := { row := witnessExactRow, standIns := [], harness := (true, "f14100170e8520a56070a1925147d65e5972e57729667f9a624ec774bf441680"), looks := true }, kinds := [], alts := [], laidByText := true, laidKinds := [.handle, .sentinel, .sentinel, .sentinel, .sentinel, .sentinel, .sentinel, .sentinel, .sentinel, .sentinel, .sentinel, .sentinel, .sentinel, .sentinel, .sentinel, .sentinel, .sentinel], laidTests := true, laidLooks := .later }
def WitnessExactCardSaid : Prop := Claim7.holds Tryd.pinned (.plain (OpenSpec.ofChange witnessExactSpec)) witnessExactCard

/-- THE TIED CARD OF 'bolterlaw13.WitnessMore'. -/
def witnessMoreCard : Claim7 := { stood := { row := witnessMoreRow, standIns := [], harness := (true, "f14100170e8520a56070a1925147d65e5972e57729667f9a624ec774bf441680"), looks := true }, kinds := [], alts := [], laidByText := true, laidKinds := [.handle, .sentinel, .sentinel, .sentinel, .sentinel, .sentinel, .sentinel, .sentinel, .sentinel, .sentinel, .sentinel, .sentinel, .sentinel, .sentinel, .sentinel, .sentinel, .sentinel], laidTests := true, laidLooks := .later }
def WitnessMoreCardSaid : Prop := Claim7.holds Tryd.pinned (.plain (OpenSpec.ofChange witnessMoreSpec)) witnessMoreCard

/-- THE TIED CARD OF 'bolterlaw12.LeastExact'. -/
def leastExactCard : Claim7 := { stood := { row := leastExactRow, standIns := [], harness := (true, "f14100170e8520a56070a1925147d65e5972e57729667f9a624ec774bf441680"), looks := true }, kinds := [], alts := [], laidByText := true, laidKinds := [.handle, .sentinel, .sentinel, .sentinel, .sentinel, .sentinel, .sentinel, .sentinel, .sentinel, .sentinel, .sentinel, .sentinel, .sentinel, .sentinel, .sentinel, .sentinel, .sentinel], laidTests := true, laidLooks := .later }
def LeastExactCardSaid : Prop := Claim7.holds Tryd.pinned (.plain (OpenSpec.ofChange leastExactSpec)) leastExactCard

/-- THE TIED CARD OF 'bolterlaw15.RowsExact'. -/
def rowsExactCard : Claim7 := { stood := { row := rowsExactRow, standIns := [], harness := (true, "f14100170e8520a56070a1925147d65e5972e57729667f9a624ec774bf441680"), looks := true }, kinds := [], alts := [], laidByText := true, laidKinds := [.handle, .sentinel, .sentinel, .sentinel, .sentinel, .sentinel, .sentinel, .sentinel, .sentinel, .sentinel, .sentinel, .sentinel, .sentinel, .sentinel, .sentinel, .sentinel, .sentinel], laidTests := true, laidLooks := .later }
def RowsExactCardSaid : Prop := Claim7.holds Tryd.pinned (.plain (OpenSpec.ofChange rowsExactSpec)) rowsExactCard

/-- THE TIED CARD OF 'bolterlaw15.RowsChecks'. -/
def rowsChecksCard : Claim7 := { stood := { row := rowsChecksRow, standIns := [], harness := (true, "f14100170e8520a56070a1925147d65e5972e57729667f9a624ec774bf441680"), looks := true }, kinds := [], alts := [], laidByText := true, laidKinds := [.handle, .sentinel, .sentinel, .sentinel, .sentinel, .sentinel, .sentinel, .sentinel, .sentinel, .sentinel, .sentinel, .sentinel, .sentinel, .sentinel, .sentinel, .sentinel, .sentinel], laidTests := true, laidLooks := .later }
def RowsChecksCardSaid : Prop := Claim7.holds Tryd.pinned (.plain (OpenSpec.ofChange rowsChecksSpec)) rowsChecksCard

/-- THE TIED CARD OF 'bolterlaw16.CombPacks'. -/
def combPacksCard : Claim7 := { stood := { row := combPacksRow, standIns := [], harness := (true, "f14100170e8520a56070a1925147d65e5972e57729667f9a624ec774bf441680"), looks := true }, kinds := [], alts := [], laidByText := true, laidKinds := [.handle, .sentinel, .sentinel, .sentinel, .sentinel, .sentinel, .sentinel, .sentinel, .sentinel, .sentinel, .sentinel, .sentinel, .sentinel, .sentinel, .sentinel, .sentinel, .sentinel], laidTests := true, laidLooks := .later }
def CombPacksCardSaid : Prop := Claim7.holds Tryd.pinned (.plain (OpenSpec.ofChange combPacksSpec)) combPacksCard

/-- THE SECOND FORM's CARD OF 'bolterlaw14.CensusBack'. -/
def censusBackUptoCard : Claim7 := { stood := { row := censusBackUptoRow, standIns := [], harness := (true, "f14100170e8520a56070a1925147d65e5972e57729667f9a624ec774bf441680"), looks := true }, kinds := [], alts := [], laidByText := true, laidKinds := [.sentinel], laidTests := true, laidLooks := .later }
def CensusBackUptoCardSaid : Prop := Claim7.holds Tryd.pinned (.plain (OpenSpec.upto censusBackSpec)) censusBackUptoCard

/-- THE SECOND FORM's CARD OF 'bolterlaw14.CensusSteps'. -/
def censusStepsUptoCard : Claim7 := { stood := { row := censusStepsUptoRow, standIns := [], harness := (true, "f14100170e8520a56070a1925147d65e5972e57729667f9a624ec774bf441680"), looks := true }, kinds := [], alts := [], laidByText := true, laidKinds := [.sentinel], laidTests := true, laidLooks := .later }
def CensusStepsUptoCardSaid : Prop := Claim7.holds Tryd.pinned (.plain (OpenSpec.upto censusStepsSpec)) censusStepsUptoCard

/-- THE SECOND FORM's CARD OF 'bolterlaw14.CensusGreat'. -/
def censusGreatUptoCard : Claim7 := { stood := { row := censusGreatUptoRow, standIns := [], harness := (true, "f14100170e8520a56070a1925147d65e5972e57729667f9a624ec774bf441680"), looks := true }, kinds := [], alts := [], laidByText := true, laidKinds := [.sentinel], laidTests := true, laidLooks := .later }
def CensusGreatUptoCardSaid : Prop := Claim7.holds Tryd.pinned (.plain (OpenSpec.upto censusGreatSpec)) censusGreatUptoCard

/-- THE SECOND FORM's CARD OF 'bolterlaw13.WitnessFirst'. -/
def witnessFirstUptoCard : Claim7 := { stood := { row := witnessFirstUptoRow, standIns := [], harness := (true, "f14100170e8520a56070a1925147d65e5972e57729667f9a624ec774bf441680"), looks := true }, kinds := [], alts := [], laidByText := true, laidKinds := [.sentinel], laidTests := true, laidLooks := .later }
def WitnessFirstUptoCardSaid : Prop := Claim7.holds Tryd.pinned (.plain (OpenSpec.upto witnessFirstSpec)) witnessFirstUptoCard

/-- THE SECOND FORM's CARD OF 'bolterlaw12.LeastApart'. -/
def leastApartUptoCard : Claim7 := { stood := { row := leastApartUptoRow, standIns := [], harness := (true, "f14100170e8520a56070a1925147d65e5972e57729667f9a624ec774bf441680"), looks := true }, kinds := [], alts := [], laidByText := true, laidKinds := [.sentinel], laidTests := true, laidLooks := .later }
def LeastApartUptoCardSaid : Prop := Claim7.holds Tryd.pinned (.plain (OpenSpec.upto leastApartSpec)) leastApartUptoCard

/-- THE SECOND FORM's CARD OF 'bolterlaw12.LeastOne'. -/
def leastOneUptoCard : Claim7 := { stood := { row := leastOneUptoRow, standIns := [], harness := (true, "f14100170e8520a56070a1925147d65e5972e57729667f9a624ec774bf441680"), looks := true }, kinds := [], alts := [], laidByText := true, laidKinds := [.sentinel], laidTests := true, laidLooks := .later }
def LeastOneUptoCardSaid : Prop := Claim7.holds Tryd.pinned (.plain (OpenSpec.upto leastOneSpec)) leastOneUptoCard

/-- THE SECOND FORM's CARD OF 'bolterlaw12.LeastClasses'. -/
def leastClassesUptoCard : Claim7 := { stood := { row := leastClassesUptoRow, standIns := [], harness := (true, "f14100170e8520a56070a1925147d65e5972e57729667f9a624ec774bf441680"), looks := true }, kinds := [], alts := [], laidByText := true, laidKinds := [.sentinel], laidTests := true, laidLooks := .later }
def LeastClassesUptoCardSaid : Prop := Claim7.holds Tryd.pinned (.plain (OpenSpec.upto leastClassesSpec)) leastClassesUptoCard

/-- THE SECOND FORM's CARD OF 'bolterlaw12.LeastLabels'. -/
def leastLabelsUptoCard : Claim7 := { stood := { row := leastLabelsUptoRow, standIns := [], harness := (true, "f14100170e8520a56070a1925147d65e5972e57729667f9a624ec774bf441680"), looks := true }, kinds := [], alts := [], laidByText := true, laidKinds := [.sentinel], laidTests := true, laidLooks := .later }
def LeastLabelsUptoCardSaid : Prop := Claim7.holds Tryd.pinned (.plain (OpenSpec.upto leastLabelsSpec)) leastLabelsUptoCard

/-- THE SECOND FORM's CARD OF 'bolterlaw13.WitnessWords'. -/
def witnessWordsUptoCard : Claim7 := { stood := { row := witnessWordsUptoRow, standIns := [], harness := (true, "f14100170e8520a56070a1925147d65e5972e57729667f9a624ec774bf441680"), looks := true }, kinds := [], alts := [], laidByText := true, laidKinds := [.sentinel], laidTests := true, laidLooks := .later }
def WitnessWordsUptoCardSaid : Prop := Claim7.holds Tryd.pinned (.plain (OpenSpec.upto witnessWordsSpec)) witnessWordsUptoCard

/-- THE SECOND FORM's CARD OF 'bolterlaw15.RowsClasses'. -/
def rowsClassesUptoCard : Claim7 := { stood := { row := rowsClassesUptoRow, standIns := [], harness := (true, "f14100170e8520a56070a1925147d65e5972e57729667f9a624ec774bf441680"), looks := true }, kinds := [], alts := [], laidByText := true, laidKinds := [.sentinel], laidTests := true, laidLooks := .later }
def RowsClassesUptoCardSaid : Prop := Claim7.holds Tryd.pinned (.plain (OpenSpec.upto rowsClassesSpec)) rowsClassesUptoCard

/-- THE SECOND FORM's CARD OF 'bolterlaw15.RowsApart'. -/
def rowsApartUptoCard : Claim7 := { stood := { row := rowsApartUptoRow, standIns := [], harness := (true, "f14100170e8520a56070a1925147d65e5972e57729667f9a624ec774bf441680"), looks := true }, kinds := [], alts := [], laidByText := true, laidKinds := [.sentinel], laidTests := true, laidLooks := .later }
def RowsApartUptoCardSaid : Prop := Claim7.holds Tryd.pinned (.plain (OpenSpec.upto rowsApartSpec)) rowsApartUptoCard

/-- THE SECOND FORM's CARD OF 'bolterlaw15.RowsRuns'. -/
def rowsRunsUptoCard : Claim7 := { stood := { row := rowsRunsUptoRow, standIns := [], harness := (true, "f14100170e8520a56070a1925147d65e5972e57729667f9a624ec774bf441680"), looks := true }, kinds := [], alts := [], laidByText := true, laidKinds := [.sentinel], laidTests := true, laidLooks := .later }
def RowsRunsUptoCardSaid : Prop := Claim7.holds Tryd.pinned (.plain (OpenSpec.upto rowsRunsSpec)) rowsRunsUptoCard

/-- THE SECOND FORM's CARD OF 'bolterlaw14.CensusSums'. -/
def censusSumsUptoCard : Claim7 := { stood := { row := censusSumsUptoRow, standIns := [], harness := (true, "f14100170e8520a56070a1925147d65e5972e57729667f9a624ec774bf441680"), looks := true }, kinds := [], alts := [], laidByText := true, laidKinds := [.sentinel], laidTests := true, laidLooks := .later }
def CensusSumsUptoCardSaid : Prop := Claim7.holds Tryd.pinned (.plain (OpenSpec.upto censusSumsSpec)) censusSumsUptoCard

/-- THE SECOND FORM's CARD OF 'bolterlaw13.WitnessClasses'. -/
def witnessClassesUptoCard : Claim7 := { stood := { row := witnessClassesUptoRow, standIns := [], harness := (true, "f14100170e8520a56070a1925147d65e5972e57729667f9a624ec774bf441680"), looks := true }, kinds := [], alts := [], laidByText := true, laidKinds := [.sentinel], laidTests := true, laidLooks := .later }
def WitnessClassesUptoCardSaid : Prop := Claim7.holds Tryd.pinned (.plain (OpenSpec.upto witnessClassesSpec)) witnessClassesUptoCard

/-- THE SECOND FORM's CARD OF 'bolterlaw16.CombEntries'. -/
def combEntriesUptoCard : Claim7 := { stood := { row := combEntriesUptoRow, standIns := [], harness := (true, "f14100170e8520a56070a1925147d65e5972e57729667f9a624ec774bf441680"), looks := true }, kinds := [], alts := [], laidByText := true, laidKinds := [.sentinel], laidTests := true, laidLooks := .later }
def CombEntriesUptoCardSaid : Prop := Claim7.holds Tryd.pinned (.plain (OpenSpec.upto combEntriesSpec)) combEntriesUptoCard

/-- THE SECOND FORM's CARD OF 'bolterlaw16.CombTight'. -/
def combTightUptoCard : Claim7 := { stood := { row := combTightUptoRow, standIns := [], harness := (true, "f14100170e8520a56070a1925147d65e5972e57729667f9a624ec774bf441680"), looks := true }, kinds := [], alts := [], laidByText := true, laidKinds := [.sentinel], laidTests := true, laidLooks := .later }
def CombTightUptoCardSaid : Prop := Claim7.holds Tryd.pinned (.plain (OpenSpec.upto combTightSpec)) combTightUptoCard

/-- THE SECOND FORM's CARD OF 'bolterlaw16.CombGreat'. -/
def combGreatUptoCard : Claim7 := { stood := { row := combGreatUptoRow, standIns := [], harness := (true, "f14100170e8520a56070a1925147d65e5972e57729667f9a624ec774bf441680"), looks := true }, kinds := [], alts := [], laidByText := true, laidKinds := [.sentinel], laidTests := true, laidLooks := .later }
def CombGreatUptoCardSaid : Prop := Claim7.holds Tryd.pinned (.plain (OpenSpec.upto combGreatSpec)) combGreatUptoCard

/-- THE SECOND FORM's CARD OF 'bolterlaw14.CensusExact'. -/
def censusExactUptoCard : Claim7 := { stood := { row := censusExactUptoRow, standIns := [], harness := (true, "f14100170e8520a56070a1925147d65e5972e57729667f9a624ec774bf441680"), looks := true }, kinds := [], alts := [], laidByText := true, laidKinds := [.handle, .sentinel, .sentinel, .sentinel, .sentinel, .sentinel, .sentinel, .sentinel, .sentinel, .sentinel, .sentinel, .sentinel, .sentinel, .sentinel, .sentinel, .sentinel, .sentinel], laidTests := true, laidLooks := .later }
def CensusExactUptoCardSaid : Prop := Claim7.holds Tryd.pinned (.plain (OpenSpec.upto censusExactSpec)) censusExactUptoCard

/-- THE SECOND FORM's CARD OF 'bolterlaw13.WitnessExact'. -/
def witnessExactUptoCard : Claim7 := { stood := { row := witnessExactUptoRow, standIns := [], harness := (true, "f14100170e8520a56070a1925147d65e5972e57729667f9a624ec774bf441680"), looks := true }, kinds := [], alts := [], laidByText := true, laidKinds := [.handle, .sentinel, .sentinel, .sentinel, .sentinel, .sentinel, .sentinel, .sentinel, .sentinel, .sentinel, .sentinel, .sentinel, .sentinel, .sentinel, .sentinel, .sentinel, .sentinel], laidTests := true, laidLooks := .later }
def WitnessExactUptoCardSaid : Prop := Claim7.holds Tryd.pinned (.plain (OpenSpec.upto witnessExactSpec)) witnessExactUptoCard

/-- THE SECOND FORM's CARD OF 'bolterlaw13.WitnessMore'. -/
def witnessMoreUptoCard : Claim7 := { stood := { row := witnessMoreUptoRow, standIns := [], harness := (true, "f14100170e8520a56070a1925147d65e5972e57729667f9a624ec774bf441680"), looks := true }, kinds := [], alts := [], laidByText := true, laidKinds := [.handle, .sentinel, .sentinel, .sentinel, .sentinel, .sentinel, .sentinel, .sentinel, .sentinel, .sentinel, .sentinel, .sentinel, .sentinel, .sentinel, .sentinel, .sentinel, .sentinel], laidTests := true, laidLooks := .later }
def WitnessMoreUptoCardSaid : Prop := Claim7.holds Tryd.pinned (.plain (OpenSpec.upto witnessMoreSpec)) witnessMoreUptoCard

/-- THE SECOND FORM's CARD OF 'bolterlaw12.LeastExact'. -/
def leastExactUptoCard : Claim7 := { stood := { row := leastExactUptoRow, standIns := [], harness := (true, "f14100170e8520a56070a1925147d65e5972e57729667f9a624ec774bf441680"), looks := true }, kinds := [], alts := [], laidByText := true, laidKinds := [.handle, .sentinel, .sentinel, .sentinel, .sentinel, .sentinel, .sentinel, .sentinel, .sentinel, .sentinel, .sentinel, .sentinel, .sentinel, .sentinel, .sentinel, .sentinel, .sentinel], laidTests := true, laidLooks := .later }
def LeastExactUptoCardSaid : Prop := Claim7.holds Tryd.pinned (.plain (OpenSpec.upto leastExactSpec)) leastExactUptoCard

/-- THE SECOND FORM's CARD OF 'bolterlaw15.RowsExact'. -/
def rowsExactUptoCard : Claim7 := { stood := { row := rowsExactUptoRow, standIns := [], harness := (true, "f14100170e8520a56070a1925147d65e5972e57729667f9a624ec774bf441680"), looks := true }, kinds := [], alts := [], laidByText := true, laidKinds := [.handle, .sentinel, .sentinel, .sentinel, .sentinel, .sentinel, .sentinel, .sentinel, .sentinel, .sentinel, .sentinel, .sentinel, .sentinel, .sentinel, .sentinel, .sentinel, .sentinel], laidTests := true, laidLooks := .later }
def RowsExactUptoCardSaid : Prop := Claim7.holds Tryd.pinned (.plain (OpenSpec.upto rowsExactSpec)) rowsExactUptoCard

/-- THE SECOND FORM's CARD OF 'bolterlaw15.RowsChecks'. -/
def rowsChecksUptoCard : Claim7 := { stood := { row := rowsChecksUptoRow, standIns := [], harness := (true, "f14100170e8520a56070a1925147d65e5972e57729667f9a624ec774bf441680"), looks := true }, kinds := [], alts := [], laidByText := true, laidKinds := [.handle, .sentinel, .sentinel, .sentinel, .sentinel, .sentinel, .sentinel, .sentinel, .sentinel, .sentinel, .sentinel, .sentinel, .sentinel, .sentinel, .sentinel, .sentinel, .sentinel], laidTests := true, laidLooks := .later }
def RowsChecksUptoCardSaid : Prop := Claim7.holds Tryd.pinned (.plain (OpenSpec.upto rowsChecksSpec)) rowsChecksUptoCard

/-- THE SECOND FORM's CARD OF 'bolterlaw16.CombPacks'. -/
def combPacksUptoCard : Claim7 := { stood := { row := combPacksUptoRow, standIns := [], harness := (true, "f14100170e8520a56070a1925147d65e5972e57729667f9a624ec774bf441680"), looks := true }, kinds := [], alts := [], laidByText := true, laidKinds := [.handle, .sentinel, .sentinel, .sentinel, .sentinel, .sentinel, .sentinel, .sentinel, .sentinel, .sentinel, .sentinel, .sentinel, .sentinel, .sentinel, .sentinel, .sentinel, .sentinel], laidTests := true, laidLooks := .later }
def CombPacksUptoCardSaid : Prop := Claim7.holds Tryd.pinned (.plain (OpenSpec.upto combPacksSpec)) combPacksUptoCard
end Rows
end Go.Proofs.YtpkngnompkdlnaaDoor
