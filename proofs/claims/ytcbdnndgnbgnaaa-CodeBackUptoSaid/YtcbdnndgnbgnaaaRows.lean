/-
  No cell of these rows narrows 'for every input' (looked for: loops, veiled, ifaces, maps, wideKeys, modest, calm, conditions, laid).
  DERIVED. THE GIVEN ROWS OF THIS SEAT. 7 by the template 'for every input the law returns true; each argument reads behind the call as it read before'; 0 by the template 'total and deterministic' (their statements: YtcbdnndgnbgnaaaTotals.lean).
  GIVEN WITH THE SEED: the statements are not yours to turn. If you find one false, say at which input.
  Laid BY PROGRAM, IN A SANDBOX (cutbox-rows.mjs): the forced cells as the released guide's own fill.sh prints them over the translation ce4f9f885db61158… (all of the seat's roots in one cut). By AI agents, Wed Nov 11 2026. No macro, syntax, notation, axiom, sorry.
-/
import Derived.Test.YtcbdnndgnbgnaaaChecked
import GoSem.Claim
import GoSem.ClaimJoined
import GoSem.ClaimMapViews
import Derived.JoinedTies
import Derived.KernelRfl
namespace Go.Proofs.Ytcbdnndgnbgnaaa
/- THE CELL 'sum', in the pinned program and in every row, IS THE sha256 OF THE DUMP (.gsa) THAT YtcbdnndgnbgnaaaProg.lean LOADS. Nothing in Lean hashes anything: it is a label: what it is worth is what the hold of that sum in a sandbox is worth. -/
noncomputable def Try.pinned : Pinned := { name := "ytcbdnndgnbgnaaa", sum := "ce4f9f885db61158ea197bb16d727e4c4470a1ee95f4f32b324c7025db402030", checked := Try.checked }
namespace Rows
def none {H : Type} : Left H := { results := [], args := [] }

/-- 'bushellaw01.WordTells': WHATEVER THE INPUT: true; the input reads as it did. -/
def wordTellsSpec : ChangeSpec := { name := "wordTells", fn := fun _ => fun
  | [d1, d2, d3, d4, d5] => { results := [.lit (.bool true)], args := [d1, d2, d3, d4, d5] }
  | _ => none }
def wordTellsRow : OpenClaim := { program := "ytcbdnndgnbgnaaa", sum := "ce4f9f885db61158ea197bb16d727e4c4470a1ee95f4f32b324c7025db402030", func := "bushel/bushellaw01.WordTells", spec := "wordTells", apart := false }
def WordTellsSaid : Prop := wordTellsRow.holds Try.pinned (OpenSpec.ofChange wordTellsSpec)

/-- ITS FALSE NEIGHBOUR: 'it returns false'. Refute it at one input. -/
def wordTellsWrong : ChangeSpec := { name := "wordTells", fn := fun _ => fun
  | [d1, d2, d3, d4, d5] => { results := [.lit (.bool false)], args := [d1, d2, d3, d4, d5] }
  | _ => none }
def WordTellsWrongFalsely : Prop := wordTellsRow.holds Try.pinned (OpenSpec.ofChange wordTellsWrong)

/-- 'bushellaw01.WordPacks': WHATEVER THE INPUT: true; the input reads as it did. -/
def wordPacksSpec : ChangeSpec := { name := "wordPacks", fn := fun _ => fun
  | [d1, d2] => { results := [.lit (.bool true)], args := [d1, d2] }
  | _ => none }
def wordPacksRow : OpenClaim := { program := "ytcbdnndgnbgnaaa", sum := "ce4f9f885db61158ea197bb16d727e4c4470a1ee95f4f32b324c7025db402030", func := "bushel/bushellaw01.WordPacks", spec := "wordPacks", apart := false }
def WordPacksSaid : Prop := wordPacksRow.holds Try.pinned (OpenSpec.ofChange wordPacksSpec)

/-- ITS FALSE NEIGHBOUR: 'it returns false'. Refute it at one input. -/
def wordPacksWrong : ChangeSpec := { name := "wordPacks", fn := fun _ => fun
  | [d1, d2] => { results := [.lit (.bool false)], args := [d1, d2] }
  | _ => none }
def WordPacksWrongFalsely : Prop := wordPacksRow.holds Try.pinned (OpenSpec.ofChange wordPacksWrong)

/-- 'bushellaw01.WordBack': WHATEVER THE INPUT: true; the input reads as it did. -/
def wordBackSpec : ChangeSpec := { name := "wordBack", fn := fun _ => fun
  | [d1, d2, d3, d4] => { results := [.lit (.bool true)], args := [d1, d2, d3, d4] }
  | _ => none }
def wordBackRow : OpenClaim := { program := "ytcbdnndgnbgnaaa", sum := "ce4f9f885db61158ea197bb16d727e4c4470a1ee95f4f32b324c7025db402030", func := "bushel/bushellaw01.WordBack", spec := "wordBack", apart := false }
def WordBackSaid : Prop := wordBackRow.holds Try.pinned (OpenSpec.ofChange wordBackSpec)

/-- ITS FALSE NEIGHBOUR: 'it returns false'. Refute it at one input. -/
def wordBackWrong : ChangeSpec := { name := "wordBack", fn := fun _ => fun
  | [d1, d2, d3, d4] => { results := [.lit (.bool false)], args := [d1, d2, d3, d4] }
  | _ => none }
def WordBackWrongFalsely : Prop := wordBackRow.holds Try.pinned (OpenSpec.ofChange wordBackWrong)

/-- 'bushellaw02.HeapKeeps': WHATEVER THE INPUT: true; the input reads as it did. -/
def heapKeepsSpec : ChangeSpec := { name := "heapKeeps", fn := fun _ => fun
  | [d1, d2, d3] => { results := [.lit (.bool true)], args := [d1, d2, d3] }
  | _ => none }
def heapKeepsRow : OpenClaim := { program := "ytcbdnndgnbgnaaa", sum := "ce4f9f885db61158ea197bb16d727e4c4470a1ee95f4f32b324c7025db402030", func := "bushel/bushellaw02.HeapKeeps", spec := "heapKeeps", unfollowed := true, recurses := true, apart := false }
def HeapKeepsSaid : Prop := heapKeepsRow.holds Try.pinned (OpenSpec.ofChange heapKeepsSpec)

/-- ITS FALSE NEIGHBOUR: 'it returns false'. Refute it at one input. -/
def heapKeepsWrong : ChangeSpec := { name := "heapKeeps", fn := fun _ => fun
  | [d1, d2, d3] => { results := [.lit (.bool false)], args := [d1, d2, d3] }
  | _ => none }
def HeapKeepsWrongFalsely : Prop := heapKeepsRow.holds Try.pinned (OpenSpec.ofChange heapKeepsWrong)

/-- 'bushellaw02.HeapPlays': WHATEVER THE INPUT: true; the input reads as it did. -/
def heapPlaysSpec : ChangeSpec := { name := "heapPlays", fn := fun _ => fun
  | [d1, d2] => { results := [.lit (.bool true)], args := [d1, d2] }
  | _ => none }
def heapPlaysRow : OpenClaim := { program := "ytcbdnndgnbgnaaa", sum := "ce4f9f885db61158ea197bb16d727e4c4470a1ee95f4f32b324c7025db402030", func := "bushel/bushellaw02.HeapPlays", spec := "heapPlays", unfollowed := true, recurses := true, apart := false }
def HeapPlaysSaid : Prop := heapPlaysRow.holds Try.pinned (OpenSpec.ofChange heapPlaysSpec)

/-- ITS FALSE NEIGHBOUR: 'it returns false'. Refute it at one input. -/
def heapPlaysWrong : ChangeSpec := { name := "heapPlays", fn := fun _ => fun
  | [d1, d2] => { results := [.lit (.bool false)], args := [d1, d2] }
  | _ => none }
def HeapPlaysWrongFalsely : Prop := heapPlaysRow.holds Try.pinned (OpenSpec.ofChange heapPlaysWrong)

/-- 'bushellaw19.CodeChecks': WHATEVER THE INPUT: true; the input reads as it did. -/
def codeChecksSpec : ChangeSpec := { name := "codeChecks", fn := fun _ => fun
  | [d1, d2] => { results := [.lit (.bool true)], args := [d1, d2] }
  | _ => none }
def codeChecksRow : OpenClaim := { program := "ytcbdnndgnbgnaaa", sum := "ce4f9f885db61158ea197bb16d727e4c4470a1ee95f4f32b324c7025db402030", func := "bushel/bushellaw19.CodeChecks", spec := "codeChecks", unfollowed := true, recurses := true, apart := false }
def CodeChecksSaid : Prop := codeChecksRow.holds Try.pinned (OpenSpec.ofChange codeChecksSpec)

/-- ITS FALSE NEIGHBOUR: 'it returns false'. Refute it at one input. -/
def codeChecksWrong : ChangeSpec := { name := "codeChecks", fn := fun _ => fun
  | [d1, d2] => { results := [.lit (.bool false)], args := [d1, d2] }
  | _ => none }
def CodeChecksWrongFalsely : Prop := codeChecksRow.holds Try.pinned (OpenSpec.ofChange codeChecksWrong)

/-- 'bushellaw19.CodeBack': WHATEVER THE INPUT: true; the input reads as it did. -/
def codeBackSpec : ChangeSpec := { name := "codeBack", fn := fun _ => fun
  | [d1, d2] => { results := [.lit (.bool true)], args := [d1, d2] }
  | _ => none }
def codeBackRow : OpenClaim := { program := "ytcbdnndgnbgnaaa", sum := "ce4f9f885db61158ea197bb16d727e4c4470a1ee95f4f32b324c7025db402030", func := "bushel/bushellaw19.CodeBack", spec := "codeBack", unfollowed := true, recurses := true, apart := false }
def CodeBackSaid : Prop := codeBackRow.holds Try.pinned (OpenSpec.ofChange codeBackSpec)

/-- ITS FALSE NEIGHBOUR: 'it returns false'. Refute it at one input. -/
def codeBackWrong : ChangeSpec := { name := "codeBack", fn := fun _ => fun
  | [d1, d2] => { results := [.lit (.bool false)], args := [d1, d2] }
  | _ => none }
def CodeBackWrongFalsely : Prop := codeBackRow.holds Try.pinned (OpenSpec.ofChange codeBackWrong)

/- THE SECOND FORM. 'bulk': how many values and letters a reading holds, each counted each time it is reached (what is shared counts as often as it is met; a slice's spare places count too). A statement '..UptoSaid' is the law's where the arguments, and the package variables that the reading takes, are together of bulk at most 1048576: NARROWER than '..Said'. Prove '..Said' where nothing that the law and all that it calls make is longer than what came in: it says more and counts as full. Else prove '..UptoSaid'. A law counts once. -/
mutual
def uptoBulk {H : Type} : DataW H → Nat
  | .lit (.string bytes) => bytes.length + 1
  | .lit _ => 1
  | .nil => 1
  | .ptr d => uptoBulk d + 1
  | .slice elems spare => uptoBulkAll elems + uptoBulkAll spare + 1
  | .agg parts => uptoBulkAll parts + 1
  | .iface _ d => uptoBulk d + 1
  | .map entries => uptoBulkEntries entries + 1
  | .held _ => 1
def uptoBulkAll {H : Type} : List (DataW H) → Nat
  | [] => 0
  | d :: r => uptoBulk d + uptoBulkAll r
def uptoBulkEntries {H : Type} : List (Lit × DataW H) → Nat
  | [] => 0
  | x :: r => uptoBulkEntry x + uptoBulkEntries r
def uptoBulkEntry {H : Type} : Lit × DataW H → Nat
  | (.string bytes, d) => bytes.length + uptoBulk d + 1
  | (_, d) => uptoBulk d + 1
 end
def uptoSmall : (H : Type) → List (DataW H) → Bool := fun _ ds => decide (uptoBulkAll ds ≤ 1048576)
def OpenSpec.upto (s : _root_.Go.ChangeSpec) : _root_.Go.OpenSpec := { _root_.Go.OpenSpec.ofChange s with cond := some uptoSmall }

/-- 'bushellaw01.WordTells', WHERE WHAT IT READS IS OF BULK AT MOST 1048576: true; the input reads as it did. -/
def wordTellsUptoRow : OpenClaim := { program := "ytcbdnndgnbgnaaa", sum := "ce4f9f885db61158ea197bb16d727e4c4470a1ee95f4f32b324c7025db402030", func := "bushel/bushellaw01.WordTells", spec := "wordTells", apart := false, narrowed := true }
def WordTellsUptoSaid : Prop := wordTellsUptoRow.holds Try.pinned (OpenSpec.upto wordTellsSpec)

/-- 'bushellaw01.WordPacks', WHERE WHAT IT READS IS OF BULK AT MOST 1048576: true; the input reads as it did. -/
def wordPacksUptoRow : OpenClaim := { program := "ytcbdnndgnbgnaaa", sum := "ce4f9f885db61158ea197bb16d727e4c4470a1ee95f4f32b324c7025db402030", func := "bushel/bushellaw01.WordPacks", spec := "wordPacks", apart := false, narrowed := true }
def WordPacksUptoSaid : Prop := wordPacksUptoRow.holds Try.pinned (OpenSpec.upto wordPacksSpec)

/-- 'bushellaw01.WordBack', WHERE WHAT IT READS IS OF BULK AT MOST 1048576: true; the input reads as it did. -/
def wordBackUptoRow : OpenClaim := { program := "ytcbdnndgnbgnaaa", sum := "ce4f9f885db61158ea197bb16d727e4c4470a1ee95f4f32b324c7025db402030", func := "bushel/bushellaw01.WordBack", spec := "wordBack", apart := false, narrowed := true }
def WordBackUptoSaid : Prop := wordBackUptoRow.holds Try.pinned (OpenSpec.upto wordBackSpec)

/-- 'bushellaw02.HeapKeeps', WHERE WHAT IT READS IS OF BULK AT MOST 1048576: true; the input reads as it did. -/
def heapKeepsUptoRow : OpenClaim := { program := "ytcbdnndgnbgnaaa", sum := "ce4f9f885db61158ea197bb16d727e4c4470a1ee95f4f32b324c7025db402030", func := "bushel/bushellaw02.HeapKeeps", spec := "heapKeeps", unfollowed := true, recurses := true, apart := false, narrowed := true }
def HeapKeepsUptoSaid : Prop := heapKeepsUptoRow.holds Try.pinned (OpenSpec.upto heapKeepsSpec)

/-- 'bushellaw02.HeapPlays', WHERE WHAT IT READS IS OF BULK AT MOST 1048576: true; the input reads as it did. -/
def heapPlaysUptoRow : OpenClaim := { program := "ytcbdnndgnbgnaaa", sum := "ce4f9f885db61158ea197bb16d727e4c4470a1ee95f4f32b324c7025db402030", func := "bushel/bushellaw02.HeapPlays", spec := "heapPlays", unfollowed := true, recurses := true, apart := false, narrowed := true }
def HeapPlaysUptoSaid : Prop := heapPlaysUptoRow.holds Try.pinned (OpenSpec.upto heapPlaysSpec)

/-- 'bushellaw19.CodeChecks', WHERE WHAT IT READS IS OF BULK AT MOST 1048576: true; the input reads as it did. -/
def codeChecksUptoRow : OpenClaim := { program := "ytcbdnndgnbgnaaa", sum := "ce4f9f885db61158ea197bb16d727e4c4470a1ee95f4f32b324c7025db402030", func := "bushel/bushellaw19.CodeChecks", spec := "codeChecks", unfollowed := true, recurses := true, apart := false, narrowed := true }
def CodeChecksUptoSaid : Prop := codeChecksUptoRow.holds Try.pinned (OpenSpec.upto codeChecksSpec)

/-- 'bushellaw19.CodeBack', WHERE WHAT IT READS IS OF BULK AT MOST 1048576: true; the input reads as it did. -/
def codeBackUptoRow : OpenClaim := { program := "ytcbdnndgnbgnaaa", sum := "ce4f9f885db61158ea197bb16d727e4c4470a1ee95f4f32b324c7025db402030", func := "bushel/bushellaw19.CodeBack", spec := "codeBack", unfollowed := true, recurses := true, apart := false, narrowed := true }
def CodeBackUptoSaid : Prop := codeBackUptoRow.holds Try.pinned (OpenSpec.upto codeBackSpec)

end Rows
end Go.Proofs.Ytcbdnndgnbgnaaa
