/-
  What arguments of the code package stand for. (Own work.)
-/
import Derived.Test.YtcbdnndgnbgnaaaC14
set_option linter.unusedVariables false
set_option linter.unusedSimpArgs false
namespace Go.Proofs.Ytcbdnndgnbgnaaa
open Go Go.Abs

theorem sl_arg {P : Program} {t e : TypeId} {sh : Sh} {cs : List V} (hu : P.underlying t = some (.slice e)) (hs : tsh P t = some none) (he : tsh P e = some sh) (h : Ty P t cs) : ∃ x, cs = [x] ∧ Arg P t x := by
  obtain ⟨xs, rfl, _, _⟩ := h.sl_inv hu he
  exact ⟨_, rfl, h, hs⟩
theorem ints_of {x : V} (h : Arg Try.prog 56 x) : ∃ l : List Int, x = .sl none false (l.map vi) := by
  obtain ⟨xs, rfl, _, hx⟩ := h.sl (e := 3) (sh := none) (by kernel_rfl) (by kernel_rfl) (by kernel_rfl)
  obtain ⟨l, rfl⟩ := list_of_all (enc := vi) fun y hy => by
    obtain ⟨n, rfl, _⟩ := (hx y hy).int (k := .i64) (by kernel_rfl) (by kernel_rfl)
    exact ⟨n, rfl⟩
  exact ⟨l, rfl⟩
theorem i64s_of {x : V} (h : Arg Try.prog 67 x) : ∃ l : List Int, x = .sl none false (l.map vi) := by
  obtain ⟨xs, rfl, _, hx⟩ := h.sl (e := 2) (sh := none) (by kernel_rfl) (by kernel_rfl) (by kernel_rfl)
  obtain ⟨l, rfl⟩ := list_of_all (enc := vi) fun y hy => by
    obtain ⟨n, rfl, _⟩ := (hx y hy).int (k := .i64) (by kernel_rfl) (by kernel_rfl)
    exact ⟨n, rfl⟩
  exact ⟨l, rfl⟩
theorem strs_of {x : V} (h : Arg Try.prog 90 x) : ∃ l : List (List UInt8), x = .sl none false (l.map .str) := by
  obtain ⟨xs, rfl, _, hx⟩ := h.sl (e := 9) (sh := none) (by kernel_rfl) (by kernel_rfl) (by kernel_rfl)
  obtain ⟨l, rfl⟩ := list_of_all (enc := V.str) fun y hy => by
    obtain ⟨n, rfl, _⟩ := (hx y hy).str (by kernel_rfl) (by kernel_rfl)
    exact ⟨n, rfl⟩
  exact ⟨l, rfl⟩
theorem instr_of {x : V} (h : Arg Try.prog 119 x) : ∃ i : Ins, x = encI i := by
  obtain ⟨parts, rfl, hp⟩ := h.struct (t := 119) (fs := Try.prog.fieldsOf 119) (n := 3) (ts := [3, 3, 56]) (by kernel_rfl) (by kernel_rfl) (by kernel_rfl)
  match parts, hp with
  | [p, q, r], ⟨h1, h2, h3, _⟩ =>
    obtain ⟨a, rfl, _⟩ := h1.int_inv (k := .i64) (by kernel_rfl)
    obtain ⟨b, rfl, _⟩ := h2.int_inv (k := .i64) (by kernel_rfl)
    obtain ⟨y, rfl, hy⟩ := sl_arg (e := 3) (sh := none) (by kernel_rfl) (by kernel_rfl) (by kernel_rfl) h3
    obtain ⟨l, rfl⟩ := ints_of hy
    exact ⟨⟨a, b, l⟩, rfl⟩
theorem instrs_of {x : V} (h : Arg Try.prog 115 x) : ∃ l : List Ins, x = .sl (some 3) false (l.map encI) := by
  obtain ⟨xs, rfl, _, hx⟩ := h.sl (e := 119) (sh := some 3) (by kernel_rfl) (by kernel_rfl) (by kernel_rfl)
  obtain ⟨l, rfl⟩ := list_of_all (enc := encI) fun y hy => instr_of (hx y hy)
  exact ⟨l, rfl⟩
theorem func_of {x : V} (h : Arg Try.prog 117 x) : ∃ i : Fn, x = encF i := by
  obtain ⟨parts, rfl, hp⟩ := h.struct (t := 117) (fs := Try.prog.fieldsOf 117) (n := 3) (ts := [3, 3, 115]) (by kernel_rfl) (by kernel_rfl) (by kernel_rfl)
  match parts, hp with
  | [p, q, r], ⟨h1, h2, h3, _⟩ =>
    obtain ⟨a, rfl, _⟩ := h1.int_inv (k := .i64) (by kernel_rfl)
    obtain ⟨b, rfl, _⟩ := h2.int_inv (k := .i64) (by kernel_rfl)
    obtain ⟨y, rfl, hy⟩ := sl_arg (e := 119) (sh := some 3) (by kernel_rfl) (by kernel_rfl) (by kernel_rfl) h3
    obtain ⟨l, rfl⟩ := instrs_of hy
    exact ⟨⟨a, b, l⟩, rfl⟩
theorem funcs_of {x : V} (h : Arg Try.prog 91 x) : ∃ l : List Fn, x = .sl (some 3) false (l.map encF) := by
  obtain ⟨xs, rfl, _, hx⟩ := h.sl (e := 117) (sh := some 3) (by kernel_rfl) (by kernel_rfl) (by kernel_rfl)
  obtain ⟨l, rfl⟩ := list_of_all (enc := encF) fun y hy => func_of (hx y hy)
  exact ⟨l, rfl⟩
theorem img_of {x : V} (h : Arg Try.prog 93 x) : ∃ i : Img, x = encM i := by
  obtain ⟨parts, rfl, hp⟩ := h.struct (t := 93) (fs := Try.prog.fieldsOf 93) (n := 3) (ts := [67, 90, 91]) (by kernel_rfl) (by kernel_rfl) (by kernel_rfl)
  match parts, hp with
  | [p, q, r], ⟨h1, h2, h3, _⟩ =>
    obtain ⟨y1, rfl, hy1⟩ := sl_arg (e := 2) (sh := none) (by kernel_rfl) (by kernel_rfl) (by kernel_rfl) h1
    obtain ⟨a, rfl⟩ := i64s_of hy1
    obtain ⟨y2, rfl, hy2⟩ := sl_arg (e := 9) (sh := none) (by kernel_rfl) (by kernel_rfl) (by kernel_rfl) h2
    obtain ⟨b, rfl⟩ := strs_of hy2
    obtain ⟨y3, rfl, hy3⟩ := sl_arg (e := 117) (sh := some 3) (by kernel_rfl) (by kernel_rfl) (by kernel_rfl) h3
    obtain ⟨l, rfl⟩ := funcs_of hy3
    exact ⟨⟨a, b, l⟩, rfl⟩
theorem own : ownKnob Try.prog.godebug = none := by kernel_rfl
theorem laidOut : laidOutB Try.prog = true := by kernel_rfl
end Go.Proofs.Ytcbdnndgnbgnaaa
