/-
  DERIVED. GIVEN WITH THE SEED: THE CARDS: each row of YtpeipjfmibjoiaaDoorRows.lean that lists a variable, with what it lists TIED to the program's text (the seventh form; the later family's looks); each row that meets fmt, with fmt's text TOLD by the authors' own Lean function (tested against real Go, not proved from fmt's source: count such statements apart). THE CARD IS WHAT COUNTS. Prove the row's statement (the work); the ties are given (YtpeipjfmibjoiaaDoorTie.lean); close each card by the builder's one call (the guide's Derived/Test/ToyasCard.lean, 'card_holds'). Laid BY PROGRAM, IN A SANDBOX (cutbox-door.mjs). By AI agents, Wed Nov 11 2026. No macro, syntax, notation, axiom, sorry.
-/
import Derived.Test.YtpeipjfmibjoiaaDoorRows
import GoSem.ClaimSeven
namespace Go.Proofs.YtpeipjfmibjoiaaDoor
namespace Rows

/-- THE TIED CARD OF 'bolterlaw13.WitnessWords'. -/
def witnessWordsCard : Claim7 := { stood := { row := witnessWordsRow, standIns := [], harness := (true, "43dd2022670a16b2f2328e1672150c0455be6ebb128517e57be5700142035dd5"), looks := true }, kinds := [], alts := [], laidByText := true, laidKinds := [.sentinel], laidTests := true, laidLooks := .later }
def WitnessWordsCardSaid : Prop := Claim7.holds Tryd.pinned (.plain (OpenSpec.ofChange witnessWordsSpec)) witnessWordsCard

/-- THE TIED CARD OF 'bolterlaw16.CombEntries'. -/
def combEntriesCard : Claim7 := { stood := { row := combEntriesRow, standIns := [], harness := (true, "43dd2022670a16b2f2328e1672150c0455be6ebb128517e57be5700142035dd5"), looks := true }, kinds := [], alts := [], laidByText := true, laidKinds := [.sentinel], laidTests := true, laidLooks := .later }
def CombEntriesCardSaid : Prop := Claim7.holds Tryd.pinned (.plain (OpenSpec.ofChange combEntriesSpec)) combEntriesCard

/-- THE TIED CARD OF 'bolterlaw16.CombTight'. -/
def combTightCard : Claim7 := { stood := { row := combTightRow, standIns := [], harness := (true, "43dd2022670a16b2f2328e1672150c0455be6ebb128517e57be5700142035dd5"), looks := true }, kinds := [], alts := [], laidByText := true, laidKinds := [.sentinel], laidTests := true, laidLooks := .later }
def CombTightCardSaid : Prop := Claim7.holds Tryd.pinned (.plain (OpenSpec.ofChange combTightSpec)) combTightCard

/-- THE TIED CARD OF 'bolterlaw16.CombGreat'. -/
def combGreatCard : Claim7 := { stood := { row := combGreatRow, standIns := [], harness := (true, "43dd2022670a16b2f2328e1672150c0455be6ebb128517e57be5700142035dd5"), looks := true }, kinds := [], alts := [], laidByText := true, laidKinds := [.sentinel], laidTests := true, laidLooks := .later }
def CombGreatCardSaid : Prop := Claim7.holds Tryd.pinned (.plain (OpenSpec.ofChange combGreatSpec)) combGreatCard

/-- THE TIED CARD OF 'bolterlaw14.CensusExact'. -/
def censusExactCard : Claim7 := { stood := { row := censusExactRow, standIns := [], harness := (true, "43dd2022670a16b2f2328e1672150c0455be6ebb128517e57be5700142035dd5"), looks := true }, kinds := [], alts := [], laidByText := true, laidKinds := [.handle, .sentinel, .sentinel, .sentinel, .sentinel, .sentinel, .sentinel, .sentinel, .sentinel, .sentinel, .sentinel, .sentinel, .sentinel, .sentinel, .sentinel, .sentinel, .sentinel], laidTests := true, laidLooks := .later }
def CensusExactCardSaid : Prop := Claim7.holds Tryd.pinned (.plain (OpenSpec.ofChange censusExactSpec)) censusExactCard

/-- THE TIED CARD OF 'bolterlaw13.WitnessExact'. -/
def witnessExactCard : Claim7 := { stood := { row := witnessExactRow, standIns := [], harness := (true, "43dd2022670a16b2f2328e1672150c0455be6ebb128517e57be5700142035dd5"), looks := true }, kinds := [], alts := [], laidByText := true, laidKinds := [.handle, .sentinel, .sentinel, .sentinel, .sentinel, .sentinel, .sentinel, .sentinel, .sentinel, .sentinel, .sentinel, .sentinel, .sentinel, .sentinel, .sentinel, .sentinel, .sentinel], laidTests := true, laidLooks := .later }
def WitnessExactCardSaid : Prop := Claim7.holds Tryd.pinned (.plain (OpenSpec.ofChange witnessExactSpec)) witnessExactCard

/-- THE TIED CARD OF 'bolterlaw13.WitnessMore'. -/
def witnessMoreCard : Claim7 := { stood := { row := witnessMoreRow, standIns := [], harness := (true, "43dd2022670a16b2f2328e1672150c0455be6ebb128517e57be5700142035dd5"), looks := true }, kinds := [], alts := [], laidByText := true, laidKinds := [.handle, .sentinel, .sentinel, .sentinel, .sentinel, .sentinel, .sentinel, .sentinel, .sentinel, .sentinel, .sentinel, .sentinel, .sentinel, .sentinel, .sentinel, .sentinel, .sentinel], laidTests := true, laidLooks := .later }
def WitnessMoreCardSaid : Prop := Claim7.holds Tryd.pinned (.plain (OpenSpec.ofChange witnessMoreSpec)) witnessMoreCard

/-- THE TIED CARD OF 'bolterlaw12.LeastExact'. -/
def leastExactCard : Claim7 := { stood := { row := leastExactRow, standIns := [], harness := (true, "43dd2022670a16b2f2328e1672150c0455be6ebb128517e57be5700142035dd5"), looks := true }, kinds := [], alts := [], laidByText := true, laidKinds := [.handle, .sentinel, .sentinel, .sentinel, .sentinel, .sentinel, .sentinel, .sentinel, .sentinel, .sentinel, .sentinel, .sentinel, .sentinel, .sentinel, .sentinel, .sentinel, .sentinel], laidTests := true, laidLooks := .later }
def LeastExactCardSaid : Prop := Claim7.holds Tryd.pinned (.plain (OpenSpec.ofChange leastExactSpec)) leastExactCard

/-- THE TIED CARD OF 'bolterlaw15.RowsExact'. -/
def rowsExactCard : Claim7 := { stood := { row := rowsExactRow, standIns := [], harness := (true, "43dd2022670a16b2f2328e1672150c0455be6ebb128517e57be5700142035dd5"), looks := true }, kinds := [], alts := [], laidByText := true, laidKinds := [.handle, .sentinel, .sentinel, .sentinel, .sentinel, .sentinel, .sentinel, .sentinel, .sentinel, .sentinel, .sentinel, .sentinel, .sentinel, .sentinel, .sentinel, .sentinel, .sentinel], laidTests := true, laidLooks := .later }
def RowsExactCardSaid : Prop := Claim7.holds Tryd.pinned (.plain (OpenSpec.ofChange rowsExactSpec)) rowsExactCard

/-- THE TIED CARD OF 'bolterlaw16.CombPacks'. -/
def combPacksCard : Claim7 := { stood := { row := combPacksRow, standIns := [], harness := (true, "43dd2022670a16b2f2328e1672150c0455be6ebb128517e57be5700142035dd5"), looks := true }, kinds := [], alts := [], laidByText := true, laidKinds := [.handle, .sentinel, .sentinel, .sentinel, .sentinel, .sentinel, .sentinel, .sentinel, .sentinel, .sentinel, .sentinel, .sentinel, .sentinel, .sentinel, .sentinel, .sentinel, .sentinel], laidTests := true, laidLooks := .later }
def CombPacksCardSaid : Prop := Claim7.holds Tryd.pinned (.plain (OpenSpec.ofChange combPacksSpec)) combPacksCard

/-- THE TIED CARD OF 'bolterlaw16.CombLooks'. -/
def combLooksCard : Claim7 := { stood := { row := combLooksRow, standIns := [], harness := (true, "43dd2022670a16b2f2328e1672150c0455be6ebb128517e57be5700142035dd5"), looks := true }, kinds := [], alts := [], laidByText := true, laidKinds := [.handle, .sentinel, .sentinel, .sentinel, .sentinel, .sentinel, .sentinel, .sentinel, .sentinel, .sentinel, .sentinel, .sentinel, .sentinel, .sentinel, .sentinel, .sentinel, .sentinel], laidTests := true, laidLooks := .later }
def CombLooksCardSaid : Prop := Claim7.holds Tryd.pinned (.plain (OpenSpec.ofChange combLooksSpec)) combLooksCard

/-- THE SECOND FORM's CARD OF 'bolterlaw13.WitnessWords'. -/
def witnessWordsUptoCard : Claim7 := { stood := { row := witnessWordsUptoRow, standIns := [], harness := (true, "43dd2022670a16b2f2328e1672150c0455be6ebb128517e57be5700142035dd5"), looks := true }, kinds := [], alts := [], laidByText := true, laidKinds := [.sentinel], laidTests := true, laidLooks := .later }
def WitnessWordsUptoCardSaid : Prop := Claim7.holds Tryd.pinned (.plain (OpenSpec.upto witnessWordsSpec)) witnessWordsUptoCard

/-- THE SECOND FORM's CARD OF 'bolterlaw16.CombEntries'. -/
def combEntriesUptoCard : Claim7 := { stood := { row := combEntriesUptoRow, standIns := [], harness := (true, "43dd2022670a16b2f2328e1672150c0455be6ebb128517e57be5700142035dd5"), looks := true }, kinds := [], alts := [], laidByText := true, laidKinds := [.sentinel], laidTests := true, laidLooks := .later }
def CombEntriesUptoCardSaid : Prop := Claim7.holds Tryd.pinned (.plain (OpenSpec.upto combEntriesSpec)) combEntriesUptoCard

/-- THE SECOND FORM's CARD OF 'bolterlaw16.CombTight'. -/
def combTightUptoCard : Claim7 := { stood := { row := combTightUptoRow, standIns := [], harness := (true, "43dd2022670a16b2f2328e1672150c0455be6ebb128517e57be5700142035dd5"), looks := true }, kinds := [], alts := [], laidByText := true, laidKinds := [.sentinel], laidTests := true, laidLooks := .later }
def CombTightUptoCardSaid : Prop := Claim7.holds Tryd.pinned (.plain (OpenSpec.upto combTightSpec)) combTightUptoCard

/-- THE SECOND FORM's CARD OF 'bolterlaw16.CombGreat'. -/
def combGreatUptoCard : Claim7 := { stood := { row := combGreatUptoRow, standIns := [], harness := (true, "43dd2022670a16b2f2328e1672150c0455be6ebb128517e57be5700142035dd5"), looks := true }, kinds := [], alts := [], laidByText := true, laidKinds := [.sentinel], laidTests := true, laidLooks := .later }
def CombGreatUptoCardSaid : Prop := Claim7.holds Tryd.pinned (.plain (OpenSpec.upto combGreatSpec)) combGreatUptoCard

/-- THE SECOND FORM's CARD OF 'bolterlaw14.CensusExact'. -/
def censusExactUptoCard : Claim7 := { stood := { row := censusExactUptoRow, standIns := [], harness := (true, "43dd2022670a16b2f2328e1672150c0455be6ebb128517e57be5700142035dd5"), looks := true }, kinds := [], alts := [], laidByText := true, laidKinds := [.handle, .sentinel, .sentinel, .sentinel, .sentinel, .sentinel, .sentinel, .sentinel, .sentinel, .sentinel, .sentinel, .sentinel, .sentinel, .sentinel, .sentinel, .sentinel, .sentinel], laidTests := true, laidLooks := .later }
def CensusExactUptoCardSaid : Prop := Claim7.holds Tryd.pinned (.plain (OpenSpec.upto censusExactSpec)) censusExactUptoCard

/-- THE SECOND FORM's CARD OF 'bolterlaw13.WitnessExact'. -/
def witnessExactUptoCard : Claim7 := { stood := { row := witnessExactUptoRow, standIns := [], harness := (true, "43dd2022670a16b2f2328e1672150c0455be6ebb128517e57be5700142035dd5"), looks := true }, kinds := [], alts := [], laidByText := true, laidKinds := [.handle, .sentinel, .sentinel, .sentinel, .sentinel, .sentinel, .sentinel, .sentinel, .sentinel, .sentinel, .sentinel, .sentinel, .sentinel, .sentinel, .sentinel, .sentinel, .sentinel], laidTests := true, laidLooks := .later }
def WitnessExactUptoCardSaid : Prop := Claim7.holds Tryd.pinned (.plain (OpenSpec.upto witnessExactSpec)) witnessExactUptoCard

/-- THE SECOND FORM's CARD OF 'bolterlaw13.WitnessMore'. -/
def witnessMoreUptoCard : Claim7 := { stood := { row := witnessMoreUptoRow, standIns := [], harness := (true, "43dd2022670a16b2f2328e1672150c0455be6ebb128517e57be5700142035dd5"), looks := true }, kinds := [], alts := [], laidByText := true, laidKinds := [.handle, .sentinel, .sentinel, .sentinel, .sentinel, .sentinel, .sentinel, .sentinel, .sentinel, .sentinel, .sentinel, .sentinel, .sentinel, .sentinel, .sentinel, .sentinel, .sentinel], laidTests := true, laidLooks := .later }
def WitnessMoreUptoCardSaid : Prop := Claim7.holds Tryd.pinned (.plain (OpenSpec.upto witnessMoreSpec)) witnessMoreUptoCard

/-- THE SECOND FORM's CARD OF 'bolterlaw12.LeastExact'. -/
def leastExactUptoCard : Claim7 := { stood := { row := leastExactUptoRow, standIns := [], harness := (true, "43dd2022670a16b2f2328e1672150c0455be6ebb128517e57be5700142035dd5"), looks := true }, kinds := [], alts := [], laidByText := true, laidKinds := [.handle, .sentinel, .sentinel, .sentinel, .sentinel, .sentinel, .sentinel, .sentinel, .sentinel, .sentinel, .sentinel, .sentinel, .sentinel, .sentinel, .sentinel, .sentinel, .sentinel], laidTests := true, laidLooks := .later }
def LeastExactUptoCardSaid : Prop := Claim7.holds Tryd.pinned (.plain (OpenSpec.upto leastExactSpec)) leastExactUptoCard

/-- THE SECOND FORM's CARD OF 'bolterlaw15.RowsExact'. -/
def rowsExactUptoCard : Claim7 := { stood := { row := rowsExactUptoRow, standIns := [], harness := (true, "43dd2022670a16b2f2328e1672150c0455be6ebb128517e57be5700142035dd5"), looks := true }, kinds := [], alts := [], laidByText := true, laidKinds := [.handle, .sentinel, .sentinel, .sentinel, .sentinel, .sentinel, .sentinel, .sentinel, .sentinel, .sentinel, .sentinel, .sentinel, .sentinel, .sentinel, .sentinel, .sentinel, .sentinel], laidTests := true, laidLooks := .later }
def RowsExactUptoCardSaid : Prop := Claim7.holds Tryd.pinned (.plain (OpenSpec.upto rowsExactSpec)) rowsExactUptoCard

/-- THE SECOND FORM's CARD OF 'bolterlaw16.CombPacks'. -/
def combPacksUptoCard : Claim7 := { stood := { row := combPacksUptoRow, standIns := [], harness := (true, "43dd2022670a16b2f2328e1672150c0455be6ebb128517e57be5700142035dd5"), looks := true }, kinds := [], alts := [], laidByText := true, laidKinds := [.handle, .sentinel, .sentinel, .sentinel, .sentinel, .sentinel, .sentinel, .sentinel, .sentinel, .sentinel, .sentinel, .sentinel, .sentinel, .sentinel, .sentinel, .sentinel, .sentinel], laidTests := true, laidLooks := .later }
def CombPacksUptoCardSaid : Prop := Claim7.holds Tryd.pinned (.plain (OpenSpec.upto combPacksSpec)) combPacksUptoCard

/-- THE SECOND FORM's CARD OF 'bolterlaw16.CombLooks'. -/
def combLooksUptoCard : Claim7 := { stood := { row := combLooksUptoRow, standIns := [], harness := (true, "43dd2022670a16b2f2328e1672150c0455be6ebb128517e57be5700142035dd5"), looks := true }, kinds := [], alts := [], laidByText := true, laidKinds := [.handle, .sentinel, .sentinel, .sentinel, .sentinel, .sentinel, .sentinel, .sentinel, .sentinel, .sentinel, .sentinel, .sentinel, .sentinel, .sentinel, .sentinel, .sentinel, .sentinel], laidTests := true, laidLooks := .later }
def CombLooksUptoCardSaid : Prop := Claim7.holds Tryd.pinned (.plain (OpenSpec.upto combLooksSpec)) combLooksUptoCard
end Rows
end Go.Proofs.YtpeipjfmibjoiaaDoor
