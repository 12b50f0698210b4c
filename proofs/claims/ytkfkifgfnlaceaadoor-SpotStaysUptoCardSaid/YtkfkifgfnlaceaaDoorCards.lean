/-
  DERIVED. GIVEN WITH THE SEED: THE CARDS: each row of YtkfkifgfnlaceaaDoorRows.lean that lists a variable, with what it lists TIED to the program's text (the seventh form; the later family's looks); each row that meets fmt, with fmt's text TOLD by the authors' own Lean function (tested against real Go, not proved from fmt's source: count such statements apart). THE CARD IS WHAT COUNTS. Prove the row's statement (the work); the ties are given (YtkfkifgfnlaceaaDoorTie.lean); close each card by the builder's one call (the guide's Derived/Test/ToyasCard.lean, 'card_holds'). Laid BY PROGRAM, IN A SANDBOX (cutbox-door.mjs). By AI agents, Wed Nov 11 2026. No macro, syntax, notation, axiom, sorry.
-/
import Derived.Test.YtkfkifgfnlaceaaDoorRows
import GoSem.ClaimSeven
namespace Go.Proofs.YtkfkifgfnlaceaaDoor
namespace Rows

/-- THE TIED CARD OF 'bushellaw03.SpotWheres'. -/
def spotWheresCard : Claim7 := { stood := { row := spotWheresRow, standIns := [], harness := (true, "b8ada13895765c389e1103db31c3b95fb52622a54972739ef7a5bc0caefc47e7"), looks := true }, kinds := [], alts := [], laidByText := true, laidKinds := [.data, .data, .data, .handle], laidTests := true, laidLooks := .later }
def SpotWheresCardSaid : Prop := Claim7.holds Tryd.pinned (.plain (OpenSpec.ofChange spotWheresSpec)) spotWheresCard

/-- THE TIED CARD OF 'bushellaw03.SpotRenders'. -/
def spotRendersCard : Claim7 := { stood := { row := spotRendersRow, standIns := [], harness := (true, "b8ada13895765c389e1103db31c3b95fb52622a54972739ef7a5bc0caefc47e7"), looks := true }, kinds := [], alts := [], laidByText := true, laidKinds := [.data, .data, .data, .handle], laidTests := true, laidLooks := .later }
def SpotRendersCardSaid : Prop := Claim7.holds Tryd.pinned (.plain (OpenSpec.ofChange spotRendersSpec)) spotRendersCard

/-- THE TIED CARD OF 'bushellaw03.SpotStays'. -/
def spotStaysCard : Claim7 := { stood := { row := spotStaysRow, standIns := [], harness := (true, "b8ada13895765c389e1103db31c3b95fb52622a54972739ef7a5bc0caefc47e7"), looks := true }, kinds := [], alts := [], laidByText := true, laidKinds := [.data, .data, .data, .handle], laidTests := true, laidLooks := .later }
def SpotStaysCardSaid : Prop := Claim7.holds Tryd.pinned (.plain (OpenSpec.ofChange spotStaysSpec)) spotStaysCard

/-- THE TIED CARD OF 'bushellaw04.LexCuts'. -/
def lexCutsCard : Claim7 := { stood := { row := lexCutsRow, standIns := [], harness := (true, "b8ada13895765c389e1103db31c3b95fb52622a54972739ef7a5bc0caefc47e7"), looks := true }, kinds := [], alts := [], laidByText := true, laidKinds := [.data, .data, .data, .handle, .sentinel, .sentinel], laidTests := true, laidLooks := .later }
def LexCutsCardSaid : Prop := Claim7.holds Tryd.pinned (.plain (OpenSpec.ofChange lexCutsSpec)) lexCutsCard

/-- THE TIED CARD OF 'bushellaw04.LexQuotes'. -/
def lexQuotesCard : Claim7 := { stood := { row := lexQuotesRow, standIns := [], harness := (true, "b8ada13895765c389e1103db31c3b95fb52622a54972739ef7a5bc0caefc47e7"), looks := true }, kinds := [], alts := [], laidByText := true, laidKinds := [.data, .data, .data, .handle, .sentinel, .sentinel], laidTests := true, laidLooks := .later }
def LexQuotesCardSaid : Prop := Claim7.holds Tryd.pinned (.plain (OpenSpec.ofChange lexQuotesSpec)) lexQuotesCard

/-- THE TIED CARD OF 'bushellaw04.LexBack'. -/
def lexBackCard : Claim7 := { stood := { row := lexBackRow, standIns := [], harness := (true, "b8ada13895765c389e1103db31c3b95fb52622a54972739ef7a5bc0caefc47e7"), looks := true }, kinds := [], alts := [], laidByText := true, laidKinds := [.data, .data, .data, .handle, .sentinel, .sentinel], laidTests := true, laidLooks := .later }
def LexBackCardSaid : Prop := Claim7.holds Tryd.pinned (.plain (OpenSpec.ofChange lexBackSpec)) lexBackCard

/-- THE SECOND FORM's CARD OF 'bushellaw03.SpotWheres'. -/
def spotWheresUptoCard : Claim7 := { stood := { row := spotWheresUptoRow, standIns := [], harness := (true, "b8ada13895765c389e1103db31c3b95fb52622a54972739ef7a5bc0caefc47e7"), looks := true }, kinds := [], alts := [], laidByText := true, laidKinds := [.data, .data, .data, .handle], laidTests := true, laidLooks := .later }
def SpotWheresUptoCardSaid : Prop := Claim7.holds Tryd.pinned (.plain (OpenSpec.upto spotWheresSpec)) spotWheresUptoCard

/-- THE SECOND FORM's CARD OF 'bushellaw03.SpotRenders'. -/
def spotRendersUptoCard : Claim7 := { stood := { row := spotRendersUptoRow, standIns := [], harness := (true, "b8ada13895765c389e1103db31c3b95fb52622a54972739ef7a5bc0caefc47e7"), looks := true }, kinds := [], alts := [], laidByText := true, laidKinds := [.data, .data, .data, .handle], laidTests := true, laidLooks := .later }
def SpotRendersUptoCardSaid : Prop := Claim7.holds Tryd.pinned (.plain (OpenSpec.upto spotRendersSpec)) spotRendersUptoCard

/-- THE SECOND FORM's CARD OF 'bushellaw03.SpotStays'. -/
def spotStaysUptoCard : Claim7 := { stood := { row := spotStaysUptoRow, standIns := [], harness := (true, "b8ada13895765c389e1103db31c3b95fb52622a54972739ef7a5bc0caefc47e7"), looks := true }, kinds := [], alts := [], laidByText := true, laidKinds := [.data, .data, .data, .handle], laidTests := true, laidLooks := .later }
def SpotStaysUptoCardSaid : Prop := Claim7.holds Tryd.pinned (.plain (OpenSpec.upto spotStaysSpec)) spotStaysUptoCard

/-- THE SECOND FORM's CARD OF 'bushellaw04.LexCuts'. -/
def lexCutsUptoCard : Claim7 := { stood := { row := lexCutsUptoRow, standIns := [], harness := (true, "b8ada13895765c389e1103db31c3b95fb52622a54972739ef7a5bc0caefc47e7"), looks := true }, kinds := [], alts := [], laidByText := true, laidKinds := [.data, .data, .data, .handle, .sentinel, .sentinel], laidTests := true, laidLooks := .later }
def LexCutsUptoCardSaid : Prop := Claim7.holds Tryd.pinned (.plain (OpenSpec.upto lexCutsSpec)) lexCutsUptoCard

/-- THE SECOND FORM's CARD OF 'bushellaw04.LexQuotes'. -/
def lexQuotesUptoCard : Claim7 := { stood := { row := lexQuotesUptoRow, standIns := [], harness := (true, "b8ada13895765c389e1103db31c3b95fb52622a54972739ef7a5bc0caefc47e7"), looks := true }, kinds := [], alts := [], laidByText := true, laidKinds := [.data, .data, .data, .handle, .sentinel, .sentinel], laidTests := true, laidLooks := .later }
def LexQuotesUptoCardSaid : Prop := Claim7.holds Tryd.pinned (.plain (OpenSpec.upto lexQuotesSpec)) lexQuotesUptoCard

/-- THE SECOND FORM's CARD OF 'bushellaw04.LexBack'. -/
def lexBackUptoCard : Claim7 := { stood := { row := lexBackUptoRow, standIns := [], harness := (true, "b8ada13895765c389e1103db31c3b95fb52622a54972739ef7a5bc0caefc47e7"), looks := true }, kinds := [], alts := [], laidByText := true, laidKinds := [.data, .data, .data, .handle, .sentinel, .sentinel], laidTests := true, laidLooks := .later }
def LexBackUptoCardSaid : Prop := Claim7.holds Tryd.pinned (.plain (OpenSpec.upto lexBackSpec)) lexBackUptoCard
end Rows
end Go.Proofs.YtkfkifgfnlaceaaDoor
