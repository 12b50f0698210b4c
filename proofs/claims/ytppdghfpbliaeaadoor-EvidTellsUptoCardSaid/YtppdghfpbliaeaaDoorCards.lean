/-
  DERIVED. GIVEN WITH THE SEED: THE CARDS: each row of YtppdghfpbliaeaaDoorRows.lean that lists a variable, with what it lists TIED to the program's text (the seventh form; the later family's looks); each row that meets fmt, with fmt's text TOLD by the authors' own Lean function (tested against real Go, not proved from fmt's source: count such statements apart). THE CARD IS WHAT COUNTS. Prove the row's statement (the work); the ties are given (YtppdghfpbliaeaaDoorTie.lean); close each card by the builder's one call (the guide's Derived/Test/ToyasCard.lean, 'card_holds'). Laid BY PROGRAM, IN A SANDBOX (cutbox-door.mjs). By AI agents, Wed Nov 11 2026. No macro, syntax, notation, axiom, sorry.
-/
import Derived.Test.YtppdghfpbliaeaaDoorRows
import GoSem.ClaimSeven
namespace Go.Proofs.YtppdghfpbliaeaaDoor
namespace Rows

/-- THE TIED CARD OF 'bushellaw13.EvidWhole'. -/
def evidWholeCard : Claim7 := { stood := { row := evidWholeRow, standIns := [], harness := (true, "988ec0acf94239ad715b915c93b5a6504fbb9a321c467918b099effd2643d043"), looks := true }, kinds := [], alts := [], laidByText := true, laidKinds := [.data, .data, .data], laidTests := true, laidLooks := .later }
def EvidWholeCardSaid : Prop := Claim7.holds Tryd.pinned (.plain (OpenSpec.ofChange evidWholeSpec)) evidWholeCard

/-- THE TIED CARD OF 'bushellaw13.EvidTells'. -/
def evidTellsCard : Claim7 := { stood := { row := evidTellsRow, standIns := [], harness := (true, "988ec0acf94239ad715b915c93b5a6504fbb9a321c467918b099effd2643d043"), looks := true }, kinds := [], alts := [], laidByText := true, laidKinds := [.data, .data, .data], laidTests := true, laidLooks := .later }
def EvidTellsCardSaid : Prop := Claim7.holds Tryd.pinned (.plain (OpenSpec.ofChange evidTellsSpec)) evidTellsCard

/-- THE TIED CARD OF 'bushellaw03.SpotWheres'. -/
def spotWheresCard : Claim7 := { stood := { row := spotWheresRow, standIns := [], harness := (true, "988ec0acf94239ad715b915c93b5a6504fbb9a321c467918b099effd2643d043"), looks := true }, kinds := [], alts := [], laidByText := true, laidKinds := [.data, .data, .data, .handle], laidTests := true, laidLooks := .later }
def SpotWheresCardSaid : Prop := Claim7.holds Tryd.pinned (.plain (OpenSpec.ofChange spotWheresSpec)) spotWheresCard

/-- THE TIED CARD OF 'bushellaw03.SpotRenders'. -/
def spotRendersCard : Claim7 := { stood := { row := spotRendersRow, standIns := [], harness := (true, "988ec0acf94239ad715b915c93b5a6504fbb9a321c467918b099effd2643d043"), looks := true }, kinds := [], alts := [], laidByText := true, laidKinds := [.data, .data, .data, .handle], laidTests := true, laidLooks := .later }
def SpotRendersCardSaid : Prop := Claim7.holds Tryd.pinned (.plain (OpenSpec.ofChange spotRendersSpec)) spotRendersCard

/-- THE TIED CARD OF 'bushellaw03.SpotStays'. -/
def spotStaysCard : Claim7 := { stood := { row := spotStaysRow, standIns := [], harness := (true, "988ec0acf94239ad715b915c93b5a6504fbb9a321c467918b099effd2643d043"), looks := true }, kinds := [], alts := [], laidByText := true, laidKinds := [.data, .data, .data, .handle], laidTests := true, laidLooks := .later }
def SpotStaysCardSaid : Prop := Claim7.holds Tryd.pinned (.plain (OpenSpec.ofChange spotStaysSpec)) spotStaysCard

/-- THE SECOND FORM's CARD OF 'bushellaw13.EvidWhole'. -/
def evidWholeUptoCard : Claim7 := { stood := { row := evidWholeUptoRow, standIns := [], harness := (true, "988ec0acf94239ad715b915c93b5a6504fbb9a321c467918b099effd2643d043"), looks := true }, kinds := [], alts := [], laidByText := true, laidKinds := [.data, .data, .data], laidTests := true, laidLooks := .later }
def EvidWholeUptoCardSaid : Prop := Claim7.holds Tryd.pinned (.plain (OpenSpec.upto evidWholeSpec)) evidWholeUptoCard

/-- THE SECOND FORM's CARD OF 'bushellaw13.EvidTells'. -/
def evidTellsUptoCard : Claim7 := { stood := { row := evidTellsUptoRow, standIns := [], harness := (true, "988ec0acf94239ad715b915c93b5a6504fbb9a321c467918b099effd2643d043"), looks := true }, kinds := [], alts := [], laidByText := true, laidKinds := [.data, .data, .data], laidTests := true, laidLooks := .later }
def EvidTellsUptoCardSaid : Prop := Claim7.holds Tryd.pinned (.plain (OpenSpec.upto evidTellsSpec)) evidTellsUptoCard

/-- THE SECOND FORM's CARD OF 'bushellaw03.SpotWheres'. -/
def spotWheresUptoCard : Claim7 := { stood := { row := spotWheresUptoRow, standIns := [], harness := (true, "988ec0acf94239ad715b915c93b5a6504fbb9a321c467918b099effd2643d043"), looks := true }, kinds := [], alts := [], laidByText := true, laidKinds := [.data, .data, .data, .handle], laidTests := true, laidLooks := .later }
def SpotWheresUptoCardSaid : Prop := Claim7.holds Tryd.pinned (.plain (OpenSpec.upto spotWheresSpec)) spotWheresUptoCard

/-- THE SECOND FORM's CARD OF 'bushellaw03.SpotRenders'. -/
def spotRendersUptoCard : Claim7 := { stood := { row := spotRendersUptoRow, standIns := [], harness := (true, "988ec0acf94239ad715b915c93b5a6504fbb9a321c467918b099effd2643d043"), looks := true }, kinds := [], alts := [], laidByText := true, laidKinds := [.data, .data, .data, .handle], laidTests := true, laidLooks := .later }
def SpotRendersUptoCardSaid : Prop := Claim7.holds Tryd.pinned (.plain (OpenSpec.upto spotRendersSpec)) spotRendersUptoCard

/-- THE SECOND FORM's CARD OF 'bushellaw03.SpotStays'. -/
def spotStaysUptoCard : Claim7 := { stood := { row := spotStaysUptoRow, standIns := [], harness := (true, "988ec0acf94239ad715b915c93b5a6504fbb9a321c467918b099effd2643d043"), looks := true }, kinds := [], alts := [], laidByText := true, laidKinds := [.data, .data, .data, .handle], laidTests := true, laidLooks := .later }
def SpotStaysUptoCardSaid : Prop := Claim7.holds Tryd.pinned (.plain (OpenSpec.upto spotStaysSpec)) spotStaysUptoCard
end Rows
end Go.Proofs.YtppdghfpbliaeaaDoor
