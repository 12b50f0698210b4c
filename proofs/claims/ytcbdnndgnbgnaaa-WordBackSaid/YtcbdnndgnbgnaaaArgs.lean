
/-
  What arguments of the word package stand for. (Own work.)
-/
import Derived.Test.YtcbdnndgnbgnaaaW5
import Derived.Test.YtcbdnndgnbgnaaaAbsY
set_option linter.unusedVariables false
set_option linter.unusedSimpArgs false
namespace Go.Proofs.Ytcbdnndgnbgnaaa
open Go Go.Abs

theorem word_of {x : V} (h : Arg Try.prog 23 x) : ∃ w : Wd, x = wv w := by
  obtain ⟨parts, rfl, hp⟩ := h.struct (t := 23) (fs := Try.prog.fieldsOf 23) (n := 2) (ts := [4, 2]) (by kernel_rfl) (by kernel_rfl) (by kernel_rfl)
  match parts, hp with
  | [p, q], ⟨h1, h2, _⟩ =>
    obtain ⟨b, rfl⟩ := h1.bool_inv (by kernel_rfl)
    obtain ⟨n, rfl, _⟩ := h2.int_inv (k := .i64) (by kernel_rfl)
    exact ⟨⟨b, n⟩, rfl⟩

theorem own : ownKnob Try.prog.godebug = none := by kernel_rfl
theorem laidOut : laidOutB Try.prog = true := by kernel_rfl

theorem words_of {x : V} (h : Arg Try.prog 43 x) : ∃ l : List Wd, x = .sl (some 2) false (l.map wv) := by
  obtain ⟨xs, rfl, _, hx⟩ := h.sl (e := 23) (sh := some 2) (by kernel_rfl) (by kernel_rfl) (by kernel_rfl)
  obtain ⟨l, rfl⟩ := list_of_all (enc := wv) fun y hy => word_of (hx y hy)
  exact ⟨l, rfl⟩

end Go.Proofs.Ytcbdnndgnbgnaaa
