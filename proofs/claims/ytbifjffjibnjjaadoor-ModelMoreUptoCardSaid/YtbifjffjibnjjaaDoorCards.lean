/-
  DERIVED. GIVEN WITH THE SEED: THE CARDS: each row of YtbifjffjibnjjaaDoorRows.lean that lists a variable, with what it lists TIED to the program's text (the seventh form; the later family's looks); each row that meets fmt, with fmt's text TOLD by the authors' own Lean function (tested against real Go, not proved from fmt's source: count such statements apart). THE CARD IS WHAT COUNTS. Prove the row's statement (the work); the ties are given (YtbifjffjibnjjaaDoorTie.lean); close each card by the builder's one call (the guide's Derived/Test/ToyasCard.lean, 'card_holds'). Laid BY PROGRAM, IN A SANDBOX (cutbox-door.mjs). By AI agents, Wed Nov 11 2026. No macro, syntax, notation, axiom, sorry.
-/
import Derived.Test.YtbifjffjibnjjaaDoorRows
import GoSem.ClaimSeven
namespace Go.Proofs.YtbifjffjibnjjaaDoor
namespace Rows

/-- THE TIED CARD OF 'bushellaw14.CoreMore'. -/
def coreMoreCard : Claim7 := { stood := { row := coreMoreRow, standIns := [], harness := (true, "62b7dc5ae36732adcc5b2eb06690df2227871967f63a59da4fb0eb8e4763a669"), looks := true }, kinds := [], alts := [], laidByText := true, laidKinds := [.data, .data, .data], laidTests := true, laidLooks := .later }
def CoreMoreCardSaid : Prop := Claim7.holds Tryd.pinned (.plain (OpenSpec.ofChange coreMoreSpec)) coreMoreCard

/-- THE TIED CARD OF 'bushellaw17.ModelMore'. -/
def modelMoreCard : Claim7 := { stood := { row := modelMoreRow, standIns := [], harness := (true, "62b7dc5ae36732adcc5b2eb06690df2227871967f63a59da4fb0eb8e4763a669"), looks := true }, kinds := [], alts := [], laidByText := true, laidKinds := [.data, .data, .data], laidTests := true, laidLooks := .later }
def ModelMoreCardSaid : Prop := Claim7.holds Tryd.pinned (.plain (OpenSpec.ofChange modelMoreSpec)) modelMoreCard

/-- THE TIED CARD OF 'bushellaw14.CoreTells'. -/
def coreTellsCard : Claim7 := { stood := { row := coreTellsRow, standIns := [], harness := (true, "62b7dc5ae36732adcc5b2eb06690df2227871967f63a59da4fb0eb8e4763a669"), looks := true }, kinds := [], alts := [], laidByText := true, laidKinds := [.data, .data, .data], laidTests := true, laidLooks := .later }
def CoreTellsCardSaid : Prop := Claim7.holds Tryd.pinned (.plain (OpenSpec.ofChange coreTellsSpec)) coreTellsCard

/-- THE TIED CARD OF 'bushellaw16.FoldEnds'. -/
def foldEndsCard : Claim7 := { stood := { row := foldEndsRow, standIns := [], harness := (true, "62b7dc5ae36732adcc5b2eb06690df2227871967f63a59da4fb0eb8e4763a669"), looks := true }, kinds := [], alts := [], laidByText := true, laidKinds := [.data, .data, .data], laidTests := true, laidLooks := .later }
def FoldEndsCardSaid : Prop := Claim7.holds Tryd.pinned (.plain (OpenSpec.ofChange foldEndsSpec)) foldEndsCard

/-- THE SECOND FORM's CARD OF 'bushellaw14.CoreMore'. -/
def coreMoreUptoCard : Claim7 := { stood := { row := coreMoreUptoRow, standIns := [], harness := (true, "62b7dc5ae36732adcc5b2eb06690df2227871967f63a59da4fb0eb8e4763a669"), looks := true }, kinds := [], alts := [], laidByText := true, laidKinds := [.data, .data, .data], laidTests := true, laidLooks := .later }
def CoreMoreUptoCardSaid : Prop := Claim7.holds Tryd.pinned (.plain (OpenSpec.upto coreMoreSpec)) coreMoreUptoCard

/-- THE SECOND FORM's CARD OF 'bushellaw17.ModelMore'. -/
def modelMoreUptoCard : Claim7 := { stood := { row := modelMoreUptoRow, standIns := [], harness := (true, "62b7dc5ae36732adcc5b2eb06690df2227871967f63a59da4fb0eb8e4763a669"), looks := true }, kinds := [], alts := [], laidByText := true, laidKinds := [.data, .data, .data], laidTests := true, laidLooks := .later }
def ModelMoreUptoCardSaid : Prop := Claim7.holds Tryd.pinned (.plain (OpenSpec.upto modelMoreSpec)) modelMoreUptoCard

/-- THE SECOND FORM's CARD OF 'bushellaw14.CoreTells'. -/
def coreTellsUptoCard : Claim7 := { stood := { row := coreTellsUptoRow, standIns := [], harness := (true, "62b7dc5ae36732adcc5b2eb06690df2227871967f63a59da4fb0eb8e4763a669"), looks := true }, kinds := [], alts := [], laidByText := true, laidKinds := [.data, .data, .data], laidTests := true, laidLooks := .later }
def CoreTellsUptoCardSaid : Prop := Claim7.holds Tryd.pinned (.plain (OpenSpec.upto coreTellsSpec)) coreTellsUptoCard

/-- THE SECOND FORM's CARD OF 'bushellaw16.FoldEnds'. -/
def foldEndsUptoCard : Claim7 := { stood := { row := foldEndsUptoRow, standIns := [], harness := (true, "62b7dc5ae36732adcc5b2eb06690df2227871967f63a59da4fb0eb8e4763a669"), looks := true }, kinds := [], alts := [], laidByText := true, laidKinds := [.data, .data, .data], laidTests := true, laidLooks := .later }
def FoldEndsUptoCardSaid : Prop := Claim7.holds Tryd.pinned (.plain (OpenSpec.upto foldEndsSpec)) foldEndsUptoCard
end Rows
end Go.Proofs.YtbifjffjibnjjaaDoor
