/-
  DERIVED. GIVEN WITH THE SEED: THE CARDS: each row of YtpdeaekmgljeaaaDoorRows.lean that lists a variable, with what it lists TIED to the program's text (the seventh form; the later family's looks); each row that meets fmt, with fmt's text TOLD by the authors' own Lean function (tested against real Go, not proved from fmt's source: count such statements apart). THE CARD IS WHAT COUNTS. Prove the row's statement (the work); the ties are given (YtpdeaekmgljeaaaDoorTie.lean); close each card by the builder's one call (the guide's Derived/Test/ToyasCard.lean, 'card_holds'). Laid BY PROGRAM, IN A SANDBOX (cutbox-door.mjs). By AI agents, Wed Nov 11 2026. No macro, syntax, notation, axiom, sorry.
-/
import Derived.Test.YtpdeaekmgljeaaaDoorRows
import GoSem.ClaimSeven
namespace Go.Proofs.YtpdeaekmgljeaaaDoor
namespace Rows

/-- THE TIED CARD OF 'bushellaw06.ShowUnlike'. -/
def showUnlikeCard : Claim7 := { stood := { row := showUnlikeRow, standIns := [], harness := (true, "bad9297b173299a511b13e763a08b5b13e8fbc817acbc77696347804892bbb02"), looks := true }, kinds := [], alts := [], laidByText := true, laidKinds := [.data, .data, .data, .sentinel, .sentinel], laidTests := true, laidLooks := .later }
def ShowUnlikeCardSaid : Prop := Claim7.holds Tryd.pinned (.plain (OpenSpec.ofChange showUnlikeSpec)) showUnlikeCard

/-- THE SECOND FORM's CARD OF 'bushellaw06.ShowUnlike'. -/
def showUnlikeUptoCard : Claim7 := { stood := { row := showUnlikeUptoRow, standIns := [], harness := (true, "bad9297b173299a511b13e763a08b5b13e8fbc817acbc77696347804892bbb02"), looks := true }, kinds := [], alts := [], laidByText := true, laidKinds := [.data, .data, .data, .sentinel, .sentinel], laidTests := true, laidLooks := .later }
def ShowUnlikeUptoCardSaid : Prop := Claim7.holds Tryd.pinned (.plain (OpenSpec.upto showUnlikeSpec)) showUnlikeUptoCard
end Rows
end Go.Proofs.YtpdeaekmgljeaaaDoor
