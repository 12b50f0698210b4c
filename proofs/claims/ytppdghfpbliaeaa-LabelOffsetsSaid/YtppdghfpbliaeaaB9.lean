/-
  bushellaw09.LabelOffsets: for every input the law returns true, and each argument reads behind the call as it read before. No conditions.
-/
import Derived.Test.YtppdghfpbliaeaaB7
import Derived.Test.YtppdghfpbliaeaaAbsY
set_option linter.unusedVariables false
set_option linter.unusedSimpArgs false
namespace Go.Proofs.Ytppdghfpbliaeaa
open Go Go.Abs

namespace labelOffsets
theorem strs_of {x : V} (h : Arg Try.prog 22 x) : ∃ l : List Str, x = vS l := by
  obtain ⟨xs, rfl, _, hx⟩ := h.sl (e := 9) (sh := none) (by kernel_rfl) (by kernel_rfl) (by kernel_rfl)
  obtain ⟨l, rfl⟩ := list_of_all (enc := V.str) fun y hy => by
    obtain ⟨n, rfl, _⟩ := (hx y hy).str (by kernel_rfl) (by kernel_rfl)
    exact ⟨n, rfl⟩
  exact ⟨l, rfl⟩
theorem own : ownKnob Try.prog.godebug = none := by kernel_rfl
theorem laidOut : laidOutB Try.prog = true := by kernel_rfl
set_option maxRecDepth 100000 in
theorem lifted (os : Os) (started : os.Started) (H : Type) (enc : TypeId × Value → H) :
    ReturnsInHanded {} Try.checked os 6 .any (Rows.labelOffsetsSpec.pre6 enc Try.prog Try.f6 Rows.labelOffsetsRow.domain false) (Rows.labelOffsetsSpec.post enc Try.prog Try.f6 false true false false) := by
  refine returnsInHanded_of_change (C := Try.checked) own started (by kernel_rfl) Try.func6
    (ChangeSpec.witness6 (enc := enc) (C := Try.checked) false ⟨#[], #[.slice none 0 0, .slice none 0 0, .string .empty], []⟩ 8 (by kernel_rfl) (by kernel_rfl) (by kernel_rfl) (by kernel_rfl)) ?_
  intro W base args ds gs before hval hW _ _
  refine law_calls (T := [9, 22, 4]) (by kernel_rfl) laidOut (by kernel_rfl) (rt := 4) rfl (by kernel_rfl) hval _ rfl hW (fun ds hl => ?_) fun xs hxs _ => ?_
  · match ds, hl with
    | [_, _, _], _ => rfl
  · match xs, hxs with
    | [_, _, _], ⟨a1, a2, a3, _⟩ =>
      obtain ⟨a, rfl⟩ := strs_of a1
      obtain ⟨b, rfl⟩ := strs_of a2
      obtain ⟨s, rfl, _⟩ := a3.str (by kernel_rfl) (by kernel_rfl)
      exact k_LabelOffsets

theorem proved : Rows.LabelOffsetsSaid :=
  OpenClaim.holds_of_wide 6 Try.f6 rfl rfl rfl rfl rfl rfl rfl ⟨rfl, rfl, rfl, rfl, rfl⟩ rfl rfl rfl rfl rfl (by kernel_rfl) Try.func6 (by kernel_rfl)
    (of_decide_eq_true (by kernel_rfl)) (by unfold Func.isWrapper; first | (rw [if_pos (by decide +kernel)]; kernel_rfl) | (rw [if_neg (by decide +kernel)]; exact ⟨rfl, rfl⟩))
    (fun os started H enc _ => lifted os started H enc)
end labelOffsets
end Go.Proofs.Ytppdghfpbliaeaa
