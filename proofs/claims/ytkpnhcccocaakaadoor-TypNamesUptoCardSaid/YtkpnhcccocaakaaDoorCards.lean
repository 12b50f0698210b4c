/-
  DERIVED. GIVEN WITH THE SEED: THE CARDS: each row of YtkpnhcccocaakaaDoorRows.lean that lists a variable, with what it lists TIED to the program's text (the seventh form; the later family's looks); each row that meets fmt, with fmt's text TOLD by the authors' own Lean function (tested against real Go, not proved from fmt's source: count such statements apart). THE CARD IS WHAT COUNTS. Prove the row's statement (the work); the ties are given (YtkpnhcccocaakaaDoorTie.lean); close each card by the builder's one call (the guide's Derived/Test/ToyasCard.lean, 'card_holds'). Laid BY PROGRAM, IN A SANDBOX (cutbox-door.mjs). By AI agents, Wed Nov 11 2026. No macro, syntax, notation, axiom, sorry.
-/
import Derived.Test.YtkpnhcccocaakaaDoorRows
import GoSem.ClaimSeven
namespace Go.Proofs.YtkpnhcccocaakaaDoor
namespace Rows

/-- THE TIED CARD OF 'bushellaw10.TypTells'. -/
def typTellsCard : Claim7 := { stood := { row := typTellsRow, standIns := [], harness := (true, "b98f7869507911b8d8a2a6b034a83b5a71c3b6de103fd8dcfad5ad0c3cd019a1"), looks := false }, kinds := [], alts := [], laidByText := true, laidKinds := [.data, .data, .data], laidTests := true, laidLooks := .later }
def TypTellsCardSaid : Prop := Claim7.holds Tryd.pinned (.plain (OpenSpec.ofChange typTellsSpec)) typTellsCard

/-- THE TIED CARD OF 'bushellaw10.TypNames'. -/
def typNamesCard : Claim7 := { stood := { row := typNamesRow, standIns := [], harness := (true, "b98f7869507911b8d8a2a6b034a83b5a71c3b6de103fd8dcfad5ad0c3cd019a1"), looks := false }, kinds := [], alts := [], laidByText := true, laidKinds := [.data, .data, .data], laidTests := true, laidLooks := .later }
def TypNamesCardSaid : Prop := Claim7.holds Tryd.pinned (.plain (OpenSpec.ofChange typNamesSpec)) typNamesCard

/-- THE SECOND FORM's CARD OF 'bushellaw10.TypTells'. -/
def typTellsUptoCard : Claim7 := { stood := { row := typTellsUptoRow, standIns := [], harness := (true, "b98f7869507911b8d8a2a6b034a83b5a71c3b6de103fd8dcfad5ad0c3cd019a1"), looks := false }, kinds := [], alts := [], laidByText := true, laidKinds := [.data, .data, .data], laidTests := true, laidLooks := .later }
def TypTellsUptoCardSaid : Prop := Claim7.holds Tryd.pinned (.plain (OpenSpec.upto typTellsSpec)) typTellsUptoCard

/-- THE SECOND FORM's CARD OF 'bushellaw10.TypNames'. -/
def typNamesUptoCard : Claim7 := { stood := { row := typNamesUptoRow, standIns := [], harness := (true, "b98f7869507911b8d8a2a6b034a83b5a71c3b6de103fd8dcfad5ad0c3cd019a1"), looks := false }, kinds := [], alts := [], laidByText := true, laidKinds := [.data, .data, .data], laidTests := true, laidLooks := .later }
def TypNamesUptoCardSaid : Prop := Claim7.holds Tryd.pinned (.plain (OpenSpec.upto typNamesSpec)) typNamesUptoCard
end Rows
end Go.Proofs.YtkpnhcccocaakaaDoor
