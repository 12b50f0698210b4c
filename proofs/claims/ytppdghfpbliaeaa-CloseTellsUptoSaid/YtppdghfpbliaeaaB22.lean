/-
  What arguments that are core expressions stand for. (Own work.)
-/
import Derived.Test.YtppdghfpbliaeaaB21
set_option linter.unusedVariables false
set_option linter.unusedSimpArgs false
namespace Go.Proofs.Ytppdghfpbliaeaa
open Go Go.Abs


theorem sl_arg {P : Program} {t e : TypeId} {sh : Sh} {cs : List V} (hu : P.underlying t = some (.slice e)) (hs : tsh P t = some none) (he : tsh P e = some sh) (h : Ty P t cs) : ∃ x, cs = [x] ∧ Arg P t x := by
  obtain ⟨xs, rfl, _, _⟩ := h.sl_inv hu he
  exact ⟨_, rfl, h, hs⟩
theorem strs_of {x : V} (h : Arg Try.prog 22 x) : ∃ l : List (List UInt8), x = .sl none false (l.map .str) := by
  obtain ⟨xs, rfl, _, hx⟩ := h.sl (e := 9) (sh := none) (by kernel_rfl) (by kernel_rfl) (by kernel_rfl)
  obtain ⟨l, rfl⟩ := list_of_all (enc := V.str) fun y hy => by
    obtain ⟨n, rfl, _⟩ := (hx y hy).str (by kernel_rfl) (by kernel_rfl)
    exact ⟨n, rfl⟩
  exact ⟨l, rfl⟩
theorem bulk_mem {y : V} : ∀ {xs : List V}, y ∈ xs → y.bulk ≤ V.bulkL xs
  | x :: xs, h => by
    simp only [V.bulkL]
    rcases List.mem_cons.1 h with rfl | h
    · omega
    · have := bulk_mem h; omega
theorem core_of : ∀ (n : Nat) {x : V}, x.bulk ≤ n → Arg Try.prog 25 x → ∃ e : Co, x = encC e
  | 0, x, hn, h => by
    obtain ⟨parts, rfl, hp⟩ := h.struct (t := 25) (fs := Try.prog.fieldsOf 25) (n := 6) (ts := [3, 2, 9, 9, 22, 23]) (by kernel_rfl) (by kernel_rfl) (by kernel_rfl)
    match parts, hp with
    | [p, q, r, s, t, u], ⟨h1, h2, h3, h4, h5, h6, _⟩ =>
      obtain ⟨a, rfl, _⟩ := h1.int_inv (k := .i64) (by kernel_rfl)
      simp [V.bulk, V.bulkL] at hn
  | n + 1, x, hn, h => by
    obtain ⟨parts, rfl, hp⟩ := h.struct (t := 25) (fs := Try.prog.fieldsOf 25) (n := 6) (ts := [3, 2, 9, 9, 22, 23]) (by kernel_rfl) (by kernel_rfl) (by kernel_rfl)
    match parts, hp with
    | [p, q, r, s, t, u], ⟨h1, h2, h3, h4, h5, h6, _⟩ =>
      obtain ⟨a, rfl, _⟩ := h1.int_inv (k := .i64) (by kernel_rfl)
      obtain ⟨b, rfl, _⟩ := h2.int_inv (k := .i64) (by kernel_rfl)
      obtain ⟨c, rfl, _⟩ := h3.str_inv (by kernel_rfl)
      obtain ⟨d, rfl, _⟩ := h4.str_inv (by kernel_rfl)
      obtain ⟨y1, rfl, hy1⟩ := sl_arg (e := 9) (sh := none) (by kernel_rfl) (by kernel_rfl) (by kernel_rfl) h5
      obtain ⟨ns, rfl⟩ := strs_of hy1
      obtain ⟨y2, rfl, hy2⟩ := sl_arg (e := 25) (sh := some 6) (by kernel_rfl) (by kernel_rfl) (by kernel_rfl) h6
      obtain ⟨xs, rfl, _, hx⟩ := hy2.sl (e := 25) (sh := some 6) (by kernel_rfl) (by kernel_rfl) (by kernel_rfl)
      simp [V.bulk, V.bulkL] at hn
      obtain ⟨l, rfl⟩ := list_of_all (enc := encC) fun y hy => core_of n (by have := bulk_mem hy; omega) (hx y hy)
      exact ⟨.mk a b c d ns l, by rw [encC_mk]; rfl⟩
theorem own : ownKnob Try.prog.godebug = none := by kernel_rfl
theorem laidOut : laidOutB Try.prog = true := by kernel_rfl
end Go.Proofs.Ytppdghfpbliaeaa
