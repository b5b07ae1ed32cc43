/-
  DERIVED. GIVEN WITH THE SEED: THE CARDS: each row of YtmacobegnkmmcaaDoorRows.lean that lists a variable, with what it lists TIED to the program's text (the seventh form; the later family's looks); each row that meets fmt, with fmt's text TOLD by the authors' own Lean function (tested against real Go, not proved from fmt's source: count such statements apart). THE CARD IS WHAT COUNTS. Prove the row's statement (the work); the ties are given (YtmacobegnkmmcaaDoorTie.lean); close each card by the builder's one call (the guide's Derived/Test/ToyasCard.lean, 'card_holds'). Laid BY PROGRAM, IN A SANDBOX (cutbox-door.mjs). By AI agents, Wed Nov 11 2026. No macro, syntax, notation, axiom, sorry.
-/
import Derived.Test.YtmacobegnkmmcaaDoorRows
import GoSem.ClaimSeven
namespace Go.Proofs.YtmacobegnkmmcaaDoor
namespace Rows

/-- THE TIED CARD OF 'bolterlaw13.WitnessFirst'. -/
def witnessFirstCard : Claim7 := { stood := { row := witnessFirstRow, standIns := [], harness := (true, "210a6a1257e6601971d16f0b7ea171fed72c3cf62dfccbf37922f8d9565769f3"), looks := false }, kinds := [], alts := [], laidByText := true, laidKinds := [.sentinel], laidTests := true, laidLooks := .later }
def WitnessFirstCardSaid : Prop := Claim7.holds Tryd.pinned (.plain (OpenSpec.ofChange witnessFirstSpec)) witnessFirstCard

/-- THE TIED CARD OF 'bolterlaw12.LeastApart'. -/
def leastApartCard : Claim7 := { stood := { row := leastApartRow, standIns := [], harness := (true, "210a6a1257e6601971d16f0b7ea171fed72c3cf62dfccbf37922f8d9565769f3"), looks := false }, kinds := [], alts := [], laidByText := true, laidKinds := [.sentinel], laidTests := true, laidLooks := .later }
def LeastApartCardSaid : Prop := Claim7.holds Tryd.pinned (.plain (OpenSpec.ofChange leastApartSpec)) leastApartCard

/-- THE TIED CARD OF 'bolterlaw12.LeastOne'. -/
def leastOneCard : Claim7 := { stood := { row := leastOneRow, standIns := [], harness := (true, "210a6a1257e6601971d16f0b7ea171fed72c3cf62dfccbf37922f8d9565769f3"), looks := false }, kinds := [], alts := [], laidByText := true, laidKinds := [.sentinel], laidTests := true, laidLooks := .later }
def LeastOneCardSaid : Prop := Claim7.holds Tryd.pinned (.plain (OpenSpec.ofChange leastOneSpec)) leastOneCard

/-- THE TIED CARD OF 'bolterlaw12.LeastClasses'. -/
def leastClassesCard : Claim7 := { stood := { row := leastClassesRow, standIns := [], harness := (true, "210a6a1257e6601971d16f0b7ea171fed72c3cf62dfccbf37922f8d9565769f3"), looks := false }, kinds := [], alts := [], laidByText := true, laidKinds := [.sentinel], laidTests := true, laidLooks := .later }
def LeastClassesCardSaid : Prop := Claim7.holds Tryd.pinned (.plain (OpenSpec.ofChange leastClassesSpec)) leastClassesCard

/-- THE TIED CARD OF 'bolterlaw12.LeastLabels'. -/
def leastLabelsCard : Claim7 := { stood := { row := leastLabelsRow, standIns := [], harness := (true, "210a6a1257e6601971d16f0b7ea171fed72c3cf62dfccbf37922f8d9565769f3"), looks := false }, kinds := [], alts := [], laidByText := true, laidKinds := [.sentinel], laidTests := true, laidLooks := .later }
def LeastLabelsCardSaid : Prop := Claim7.holds Tryd.pinned (.plain (OpenSpec.ofChange leastLabelsSpec)) leastLabelsCard

/-- THE TIED CARD OF 'bolterlaw14.CensusSums'. -/
def censusSumsCard : Claim7 := { stood := { row := censusSumsRow, standIns := [], harness := (true, "210a6a1257e6601971d16f0b7ea171fed72c3cf62dfccbf37922f8d9565769f3"), looks := false }, kinds := [], alts := [], laidByText := true, laidKinds := [.sentinel], laidTests := true, laidLooks := .later }
def CensusSumsCardSaid : Prop := Claim7.holds Tryd.pinned (.plain (OpenSpec.ofChange censusSumsSpec)) censusSumsCard

/-- THE TIED CARD OF 'bolterlaw13.WitnessClasses'. -/
def witnessClassesCard : Claim7 := { stood := { row := witnessClassesRow, standIns := [], harness := (true, "210a6a1257e6601971d16f0b7ea171fed72c3cf62dfccbf37922f8d9565769f3"), looks := false }, kinds := [], alts := [], laidByText := true, laidKinds := [.sentinel], laidTests := true, laidLooks := .later }
def WitnessClassesCardSaid : Prop := Claim7.holds Tryd.pinned (.plain (OpenSpec.ofChange witnessClassesSpec)) witnessClassesCard

/-- THE SECOND FORM's CARD OF 'bolterlaw13.WitnessFirst'. -/
def witnessFirstUptoCard : Claim7 := { stood := { row := witnessFirstUptoRow, standIns := [], harness := (true, "210a6a1257e6601971d16f0b7ea171fed72c3cf62dfccbf37922f8d9565769f3"), looks := false }, kinds := [], alts := [], laidByText := true, laidKinds := [.sentinel], laidTests := true, laidLooks := .later }
def WitnessFirstUptoCardSaid : Prop := Claim7.holds Tryd.pinned (.plain (OpenSpec.upto witnessFirstSpec)) witnessFirstUptoCard

/-- THE SECOND FORM's CARD OF 'bolterlaw12.LeastApart'. -/
def leastApartUptoCard : Claim7 := { stood := { row := leastApartUptoRow, standIns := [], harness := (true, "210a6a1257e6601971d16f0b7ea171fed72c3cf62dfccbf37922f8d9565769f3"), looks := false }, kinds := [], alts := [], laidByText := true, laidKinds := [.sentinel], laidTests := true, laidLooks := .later }
def LeastApartUptoCardSaid : Prop := Claim7.holds Tryd.pinned (.plain (OpenSpec.upto leastApartSpec)) leastApartUptoCard

/-- THE SECOND FORM's CARD OF 'bolterlaw12.LeastOne'. -/
def leastOneUptoCard : Claim7 := { stood := { row := leastOneUptoRow, standIns := [], harness := (true, "210a6a1257e6601971d16f0b7ea171fed72c3cf62dfccbf37922f8d9565769f3"), looks := false }, kinds := [], alts := [], laidByText := true, laidKinds := [.sentinel], laidTests := true, laidLooks := .later }
def LeastOneUptoCardSaid : Prop := Claim7.holds Tryd.pinned (.plain (OpenSpec.upto leastOneSpec)) leastOneUptoCard

/-- THE SECOND FORM's CARD OF 'bolterlaw12.LeastClasses'. -/
def leastClassesUptoCard : Claim7 := { stood := { row := leastClassesUptoRow, standIns := [], harness := (true, "210a6a1257e6601971d16f0b7ea171fed72c3cf62dfccbf37922f8d9565769f3"), looks := false }, kinds := [], alts := [], laidByText := true, laidKinds := [.sentinel], laidTests := true, laidLooks := .later }
def LeastClassesUptoCardSaid : Prop := Claim7.holds Tryd.pinned (.plain (OpenSpec.upto leastClassesSpec)) leastClassesUptoCard

/-- THE SECOND FORM's CARD OF 'bolterlaw12.LeastLabels'. -/
def leastLabelsUptoCard : Claim7 := { stood := { row := leastLabelsUptoRow, standIns := [], harness := (true, "210a6a1257e6601971d16f0b7ea171fed72c3cf62dfccbf37922f8d9565769f3"), looks := false }, kinds := [], alts := [], laidByText := true, laidKinds := [.sentinel], laidTests := true, laidLooks := .later }
def LeastLabelsUptoCardSaid : Prop := Claim7.holds Tryd.pinned (.plain (OpenSpec.upto leastLabelsSpec)) leastLabelsUptoCard

/-- THE SECOND FORM's CARD OF 'bolterlaw14.CensusSums'. -/
def censusSumsUptoCard : Claim7 := { stood := { row := censusSumsUptoRow, standIns := [], harness := (true, "210a6a1257e6601971d16f0b7ea171fed72c3cf62dfccbf37922f8d9565769f3"), looks := false }, kinds := [], alts := [], laidByText := true, laidKinds := [.sentinel], laidTests := true, laidLooks := .later }
def CensusSumsUptoCardSaid : Prop := Claim7.holds Tryd.pinned (.plain (OpenSpec.upto censusSumsSpec)) censusSumsUptoCard

/-- THE SECOND FORM's CARD OF 'bolterlaw13.WitnessClasses'. -/
def witnessClassesUptoCard : Claim7 := { stood := { row := witnessClassesUptoRow, standIns := [], harness := (true, "210a6a1257e6601971d16f0b7ea171fed72c3cf62dfccbf37922f8d9565769f3"), looks := false }, kinds := [], alts := [], laidByText := true, laidKinds := [.sentinel], laidTests := true, laidLooks := .later }
def WitnessClassesUptoCardSaid : Prop := Claim7.holds Tryd.pinned (.plain (OpenSpec.upto witnessClassesSpec)) witnessClassesUptoCard
end Rows
end Go.Proofs.YtmacobegnkmmcaaDoor
