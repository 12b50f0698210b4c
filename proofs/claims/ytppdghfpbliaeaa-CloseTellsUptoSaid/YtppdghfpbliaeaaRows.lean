/-
  NARROWER THAN 'FOR EVERY INPUT', by the rows' own cells (each row's printed sentence says how): CloseTells: loops · CloseOwn: loops.
  DERIVED. THE GIVEN ROWS OF THIS SEAT. 4 by the template 'for every input the law returns true; each argument reads behind the call as it read before'; 0 by the template 'total and deterministic' (their statements: YtppdghfpbliaeaaTotals.lean).
  GIVEN WITH THE SEED: the statements are not yours to turn. If you find one false, say at which input.
  Laid BY PROGRAM, IN A SANDBOX (cutbox-rows.mjs): the forced cells as the released guide's own fill.sh prints them over the translation 16167dd19bcb01e3… (all of the seat's roots in one cut). By AI agents, Wed Nov 11 2026. No macro, syntax, notation, axiom, sorry.
-/
import Derived.Test.YtppdghfpbliaeaaChecked
import GoSem.Claim
import GoSem.ClaimJoined
import GoSem.ClaimMapViews
import Derived.JoinedTies
import Derived.KernelRfl
namespace Go.Proofs.Ytppdghfpbliaeaa
/- THE CELL 'sum', in the pinned program and in every row, IS THE sha256 OF THE DUMP (.gsa) THAT YtppdghfpbliaeaaProg.lean LOADS. Nothing in Lean hashes anything: it is a label: what it is worth is what the hold of that sum in a sandbox is worth. -/
noncomputable def Try.pinned : Pinned := { name := "ytppdghfpbliaeaa", sum := "16167dd19bcb01e3e07dba88e504597cbe9c77b7b20ae35b6d81c7e52b9aca6f", checked := Try.checked }
namespace Rows
def none {H : Type} : Left H := { results := [], args := [] }

/-- 'bushellaw18.CloseTells': WHATEVER THE INPUT: true; the input reads as it did. -/
def closeTellsSpec : ChangeSpec := { name := "closeTells", fn := fun _ => fun
  | [d] => { results := [.lit (.bool true)], args := [d] }
  | _ => none }
def closeTellsRow : OpenClaim := { program := "ytppdghfpbliaeaa", sum := "16167dd19bcb01e3e07dba88e504597cbe9c77b7b20ae35b6d81c7e52b9aca6f", func := "bushel/bushellaw18.CloseTells", spec := "closeTells", unfollowed := true, recurses := true, loops := true, apart := false }
def CloseTellsSaid : Prop := closeTellsRow.holds Try.pinned (OpenSpec.ofChange closeTellsSpec)

/-- ITS FALSE NEIGHBOUR: 'it returns false'. Refute it at one input. -/
def closeTellsWrong : ChangeSpec := { name := "closeTells", fn := fun _ => fun
  | [d] => { results := [.lit (.bool false)], args := [d] }
  | _ => none }
def CloseTellsWrongFalsely : Prop := closeTellsRow.holds Try.pinned (OpenSpec.ofChange closeTellsWrong)

/-- 'bushellaw18.CloseOwn': WHATEVER THE INPUT: true; the input reads as it did. -/
def closeOwnSpec : ChangeSpec := { name := "closeOwn", fn := fun _ => fun
  | [d] => { results := [.lit (.bool true)], args := [d] }
  | _ => none }
def closeOwnRow : OpenClaim := { program := "ytppdghfpbliaeaa", sum := "16167dd19bcb01e3e07dba88e504597cbe9c77b7b20ae35b6d81c7e52b9aca6f", func := "bushel/bushellaw18.CloseOwn", spec := "closeOwn", unfollowed := true, recurses := true, loops := true, apart := false }
def CloseOwnSaid : Prop := closeOwnRow.holds Try.pinned (OpenSpec.ofChange closeOwnSpec)

/-- ITS FALSE NEIGHBOUR: 'it returns false'. Refute it at one input. -/
def closeOwnWrong : ChangeSpec := { name := "closeOwn", fn := fun _ => fun
  | [d] => { results := [.lit (.bool false)], args := [d] }
  | _ => none }
def CloseOwnWrongFalsely : Prop := closeOwnRow.holds Try.pinned (OpenSpec.ofChange closeOwnWrong)

/-- 'bushellaw09.LabelSets': WHATEVER THE INPUT: true; the input reads as it did. -/
def labelSetsSpec : ChangeSpec := { name := "labelSets", fn := fun _ => fun
  | [d1, d2, d3] => { results := [.lit (.bool true)], args := [d1, d2, d3] }
  | _ => none }
def labelSetsRow : OpenClaim := { program := "ytppdghfpbliaeaa", sum := "16167dd19bcb01e3e07dba88e504597cbe9c77b7b20ae35b6d81c7e52b9aca6f", func := "bushel/bushellaw09.LabelSets", spec := "labelSets", unfollowed := true, recurses := true, apart := false }
def LabelSetsSaid : Prop := labelSetsRow.holds Try.pinned (OpenSpec.ofChange labelSetsSpec)

/-- ITS FALSE NEIGHBOUR: 'it returns false'. Refute it at one input. -/
def labelSetsWrong : ChangeSpec := { name := "labelSets", fn := fun _ => fun
  | [d1, d2, d3] => { results := [.lit (.bool false)], args := [d1, d2, d3] }
  | _ => none }
def LabelSetsWrongFalsely : Prop := labelSetsRow.holds Try.pinned (OpenSpec.ofChange labelSetsWrong)

/-- 'bushellaw09.LabelOffsets': WHATEVER THE INPUT: true; the input reads as it did. -/
def labelOffsetsSpec : ChangeSpec := { name := "labelOffsets", fn := fun _ => fun
  | [d1, d2, d3] => { results := [.lit (.bool true)], args := [d1, d2, d3] }
  | _ => none }
def labelOffsetsRow : OpenClaim := { program := "ytppdghfpbliaeaa", sum := "16167dd19bcb01e3e07dba88e504597cbe9c77b7b20ae35b6d81c7e52b9aca6f", func := "bushel/bushellaw09.LabelOffsets", spec := "labelOffsets", unfollowed := true, recurses := true, apart := false }
def LabelOffsetsSaid : Prop := labelOffsetsRow.holds Try.pinned (OpenSpec.ofChange labelOffsetsSpec)

/-- ITS FALSE NEIGHBOUR: 'it returns false'. Refute it at one input. -/
def labelOffsetsWrong : ChangeSpec := { name := "labelOffsets", fn := fun _ => fun
  | [d1, d2, d3] => { results := [.lit (.bool false)], args := [d1, d2, d3] }
  | _ => none }
def LabelOffsetsWrongFalsely : Prop := labelOffsetsRow.holds Try.pinned (OpenSpec.ofChange labelOffsetsWrong)

/- THE SECOND FORM. 'bulk': how many values and letters a reading holds, each counted each time it is reached (what is shared counts as often as it is met; a slice's spare places count too). A statement '..UptoSaid' is the law's where the arguments, and the package variables that the reading takes, are together of bulk at most 1048576: NARROWER than '..Said'. Prove '..Said' where nothing that the law and all that it calls make is longer than what came in: it says more and counts as full. Else prove '..UptoSaid'. A law counts once. -/
mutual
def uptoBulk {H : Type} : DataW H → Nat
  | .lit (.string bytes) => bytes.length + 1
  | .lit _ => 1
  | .nil => 1
  | .ptr d => uptoBulk d + 1
  | .slice elems spare => uptoBulkAll elems + uptoBulkAll spare + 1
  | .agg parts => uptoBulkAll parts + 1
  | .iface _ d => uptoBulk d + 1
  | .map entries => uptoBulkEntries entries + 1
  | .held _ => 1
def uptoBulkAll {H : Type} : List (DataW H) → Nat
  | [] => 0
  | d :: r => uptoBulk d + uptoBulkAll r
def uptoBulkEntries {H : Type} : List (Lit × DataW H) → Nat
  | [] => 0
  | x :: r => uptoBulkEntry x + uptoBulkEntries r
def uptoBulkEntry {H : Type} : Lit × DataW H → Nat
  | (.string bytes, d) => bytes.length + uptoBulk d + 1
  | (_, d) => uptoBulk d + 1
 end
def uptoSmall : (H : Type) → List (DataW H) → Bool := fun _ ds => decide (uptoBulkAll ds ≤ 1048576)
def OpenSpec.upto (s : _root_.Go.ChangeSpec) : _root_.Go.OpenSpec := { _root_.Go.OpenSpec.ofChange s with cond := some uptoSmall }

/-- 'bushellaw18.CloseTells', WHERE WHAT IT READS IS OF BULK AT MOST 1048576: true; the input reads as it did. -/
def closeTellsUptoRow : OpenClaim := { program := "ytppdghfpbliaeaa", sum := "16167dd19bcb01e3e07dba88e504597cbe9c77b7b20ae35b6d81c7e52b9aca6f", func := "bushel/bushellaw18.CloseTells", spec := "closeTells", unfollowed := true, recurses := true, loops := true, apart := false, narrowed := true }
def CloseTellsUptoSaid : Prop := closeTellsUptoRow.holds Try.pinned (OpenSpec.upto closeTellsSpec)

/-- 'bushellaw18.CloseOwn', WHERE WHAT IT READS IS OF BULK AT MOST 1048576: true; the input reads as it did. -/
def closeOwnUptoRow : OpenClaim := { program := "ytppdghfpbliaeaa", sum := "16167dd19bcb01e3e07dba88e504597cbe9c77b7b20ae35b6d81c7e52b9aca6f", func := "bushel/bushellaw18.CloseOwn", spec := "closeOwn", unfollowed := true, recurses := true, loops := true, apart := false, narrowed := true }
def CloseOwnUptoSaid : Prop := closeOwnUptoRow.holds Try.pinned (OpenSpec.upto closeOwnSpec)

/-- 'bushellaw09.LabelSets', WHERE WHAT IT READS IS OF BULK AT MOST 1048576: true; the input reads as it did. -/
def labelSetsUptoRow : OpenClaim := { program := "ytppdghfpbliaeaa", sum := "16167dd19bcb01e3e07dba88e504597cbe9c77b7b20ae35b6d81c7e52b9aca6f", func := "bushel/bushellaw09.LabelSets", spec := "labelSets", unfollowed := true, recurses := true, apart := false, narrowed := true }
def LabelSetsUptoSaid : Prop := labelSetsUptoRow.holds Try.pinned (OpenSpec.upto labelSetsSpec)

/-- 'bushellaw09.LabelOffsets', WHERE WHAT IT READS IS OF BULK AT MOST 1048576: true; the input reads as it did. -/
def labelOffsetsUptoRow : OpenClaim := { program := "ytppdghfpbliaeaa", sum := "16167dd19bcb01e3e07dba88e504597cbe9c77b7b20ae35b6d81c7e52b9aca6f", func := "bushel/bushellaw09.LabelOffsets", spec := "labelOffsets", unfollowed := true, recurses := true, apart := false, narrowed := true }
def LabelOffsetsUptoSaid : Prop := labelOffsetsUptoRow.holds Try.pinned (OpenSpec.upto labelOffsetsSpec)

end Rows
end Go.Proofs.Ytppdghfpbliaeaa
