/-
  DERIVED. GIVEN WITH THE SEED: THE CARDS: each row of YtpdeaekmgljeaaaGreatDoorRows.lean that lists a variable, with what it lists TIED to the program's text (the seventh form; the later family's looks); each row that meets fmt, with fmt's text TOLD by the authors' own Lean function (tested against real Go, not proved from fmt's source: count such statements apart). THE CARD IS WHAT COUNTS. Prove the row's statement (the work); the ties are given (YtpdeaekmgljeaaaGreatDoorTie.lean); close each card by the builder's one call (the guide's Derived/Test/ToyasCard.lean, 'card_holds'). Laid BY PROGRAM, IN A SANDBOX (cutbox-door.mjs). By AI agents, Wed Nov 11 2026. No macro, syntax, notation, axiom, sorry.
-/
import Derived.Test.YtpdeaekmgljeaaaGreatDoorRows
import GoSem.ClaimSeven
namespace Go.Proofs.YtpdeaekmgljeaaaGreatDoor
namespace Rows

/-- THE TIED CARD OF 'bushellaw06.ShowTells'. -/
def showTellsCard : Claim7 := { stood := { row := showTellsRow, standIns := [], harness := (true, "55a4dd4d4de3a7130f97b2e6173d2e2bfc56d5cc851c8e7d455f78c2067f6687"), looks := true }, kinds := [], alts := [], laidByText := true, laidKinds := [.data, .data, .data, .sentinel, .sentinel], laidTests := true, laidLooks := .later }
def ShowTellsCardSaid : Prop := Claim7.holds Tryz.pinned (.plain (OpenSpec.ofChange showTellsSpec)) showTellsCard

/-- THE TIED CARD OF 'bushellaw08.ScopeTells'. -/
def scopeTellsCard : Claim7 := { stood := { row := scopeTellsRow, standIns := [], harness := (true, "55a4dd4d4de3a7130f97b2e6173d2e2bfc56d5cc851c8e7d455f78c2067f6687"), looks := true }, kinds := [], alts := [], laidByText := true, laidKinds := [.data, .data, .data, .handle, .sentinel, .sentinel], laidTests := true, laidLooks := .later }
def ScopeTellsCardSaid : Prop := Claim7.holds Tryz.pinned (.plain (OpenSpec.ofChange scopeTellsSpec)) scopeTellsCard

/-- THE TIED CARD OF 'bushellaw05.SynParts'. -/
def synPartsCard : Claim7 := { stood := { row := synPartsRow, standIns := [], harness := (true, "55a4dd4d4de3a7130f97b2e6173d2e2bfc56d5cc851c8e7d455f78c2067f6687"), looks := true }, kinds := [], alts := [], laidByText := true, laidKinds := [.data, .data, .data, .sentinel, .sentinel], laidTests := true, laidLooks := .later }
def SynPartsCardSaid : Prop := Claim7.holds Tryz.pinned (.plain (OpenSpec.ofChange synPartsSpec)) synPartsCard

/-- THE TIED CARD OF 'bushellaw08.ScopeOnce'. -/
def scopeOnceCard : Claim7 := { stood := { row := scopeOnceRow, standIns := [], harness := (true, "55a4dd4d4de3a7130f97b2e6173d2e2bfc56d5cc851c8e7d455f78c2067f6687"), looks := true }, kinds := [], alts := [], laidByText := true, laidKinds := [.data, .data, .data, .handle, .sentinel, .sentinel], laidTests := true, laidLooks := .later }
def ScopeOnceCardSaid : Prop := Claim7.holds Tryz.pinned (.plain (OpenSpec.ofChange scopeOnceSpec)) scopeOnceCard

/-- THE TIED CARD OF 'bushellaw07.ParseBack'. -/
def parseBackCard : Claim7 := { stood := { row := parseBackRow, standIns := [], harness := (true, "55a4dd4d4de3a7130f97b2e6173d2e2bfc56d5cc851c8e7d455f78c2067f6687"), looks := true }, kinds := [], alts := [], laidByText := true, laidKinds := [.data, .data, .data, .handle, .sentinel, .sentinel], laidTests := true, laidLooks := .later }
def ParseBackCardSaid : Prop := Claim7.holds Tryz.pinned (.plain (OpenSpec.ofChange parseBackSpec)) parseBackCard

/-- THE SECOND FORM's CARD OF 'bushellaw06.ShowTells'. -/
def showTellsUptoCard : Claim7 := { stood := { row := showTellsUptoRow, standIns := [], harness := (true, "55a4dd4d4de3a7130f97b2e6173d2e2bfc56d5cc851c8e7d455f78c2067f6687"), looks := true }, kinds := [], alts := [], laidByText := true, laidKinds := [.data, .data, .data, .sentinel, .sentinel], laidTests := true, laidLooks := .later }
def ShowTellsUptoCardSaid : Prop := Claim7.holds Tryz.pinned (.plain (OpenSpec.upto showTellsSpec)) showTellsUptoCard

/-- THE SECOND FORM's CARD OF 'bushellaw08.ScopeTells'. -/
def scopeTellsUptoCard : Claim7 := { stood := { row := scopeTellsUptoRow, standIns := [], harness := (true, "55a4dd4d4de3a7130f97b2e6173d2e2bfc56d5cc851c8e7d455f78c2067f6687"), looks := true }, kinds := [], alts := [], laidByText := true, laidKinds := [.data, .data, .data, .handle, .sentinel, .sentinel], laidTests := true, laidLooks := .later }
def ScopeTellsUptoCardSaid : Prop := Claim7.holds Tryz.pinned (.plain (OpenSpec.upto scopeTellsSpec)) scopeTellsUptoCard

/-- THE SECOND FORM's CARD OF 'bushellaw05.SynParts'. -/
def synPartsUptoCard : Claim7 := { stood := { row := synPartsUptoRow, standIns := [], harness := (true, "55a4dd4d4de3a7130f97b2e6173d2e2bfc56d5cc851c8e7d455f78c2067f6687"), looks := true }, kinds := [], alts := [], laidByText := true, laidKinds := [.data, .data, .data, .sentinel, .sentinel], laidTests := true, laidLooks := .later }
def SynPartsUptoCardSaid : Prop := Claim7.holds Tryz.pinned (.plain (OpenSpec.upto synPartsSpec)) synPartsUptoCard

/-- THE SECOND FORM's CARD OF 'bushellaw08.ScopeOnce'. -/
def scopeOnceUptoCard : Claim7 := { stood := { row := scopeOnceUptoRow, standIns := [], harness := (true, "55a4dd4d4de3a7130f97b2e6173d2e2bfc56d5cc851c8e7d455f78c2067f6687"), looks := true }, kinds := [], alts := [], laidByText := true, laidKinds := [.data, .data, .data, .handle, .sentinel, .sentinel], laidTests := true, laidLooks := .later }
def ScopeOnceUptoCardSaid : Prop := Claim7.holds Tryz.pinned (.plain (OpenSpec.upto scopeOnceSpec)) scopeOnceUptoCard

/-- THE SECOND FORM's CARD OF 'bushellaw07.ParseBack'. -/
def parseBackUptoCard : Claim7 := { stood := { row := parseBackUptoRow, standIns := [], harness := (true, "55a4dd4d4de3a7130f97b2e6173d2e2bfc56d5cc851c8e7d455f78c2067f6687"), looks := true }, kinds := [], alts := [], laidByText := true, laidKinds := [.data, .data, .data, .handle, .sentinel, .sentinel], laidTests := true, laidLooks := .later }
def ParseBackUptoCardSaid : Prop := Claim7.holds Tryz.pinned (.plain (OpenSpec.upto parseBackSpec)) parseBackUptoCard
end Rows
end Go.Proofs.YtpdeaekmgljeaaaGreatDoor
