/-
  bushellaw01.WordBack: for every input the law returns true, and each argument reads behind the call as it read before. No conditions.
-/
import Derived.Test.YtcbdnndgnbgnaaaArgs
import Derived.Test.YtcbdnndgnbgnaaaW7
set_option linter.unusedVariables false
set_option linter.unusedSimpArgs false
namespace Go.Proofs.Ytcbdnndgnbgnaaa
open Go Go.Abs

namespace wordBack
set_option maxRecDepth 100000 in
theorem lifted (os : Os) (started : os.Started) (H : Type) (enc : TypeId × Value → H) :
    ReturnsInHanded {} Try.checked os 5 .any (Rows.wordBackSpec.pre6 enc Try.prog Try.f5 Rows.wordBackRow.domain false) (Rows.wordBackSpec.post enc Try.prog Try.f5 false true false false) := by
  refine returnsInHanded_of_change (C := Try.checked) own started (by kernel_rfl) Try.func5
    (ChangeSpec.witness6 (enc := enc) (C := Try.checked) false ⟨#[], #[.slice none 0 0, .int .i64 0, .int .i64 0, .agg #[.bool false, .int .i64 0]], []⟩ 8 (by kernel_rfl) (by kernel_rfl) (by kernel_rfl) (by kernel_rfl)) ?_
  intro W base args ds gs before hval hW _ _
  refine law_calls (T := [2, 3, 4, 5, 42, 23]) (by kernel_rfl) laidOut (by kernel_rfl) (rt := 4) rfl (by kernel_rfl) hval _ rfl hW (fun ds hl => ?_) fun xs hxs _ => ?_
  · match ds, hl with
    | [_, _, _, _], _ => rfl
  · match xs, hxs with
    | [_, _, _, _], ⟨a1, a2, a3, a4, _⟩ =>
      obtain ⟨bs, rfl, _⟩ := a1.bytes (e := 5) (by kernel_rfl) (by kernel_rfl) (by kernel_rfl) (by kernel_rfl)
      obtain ⟨kind, rfl, _⟩ := a2.int (k := .i64) (by kernel_rfl) (by kernel_rfl)
      obtain ⟨size, rfl, _⟩ := a3.int (k := .i64) (by kernel_rfl) (by kernel_rfl)
      obtain ⟨w, rfl⟩ := word_of a4
      exact k_WordBack bs false kind size w _

theorem proved : Rows.WordBackSaid :=
  OpenClaim.holds_of_wide 5 Try.f5 rfl rfl rfl rfl rfl rfl rfl ⟨rfl, rfl, rfl, rfl, rfl⟩ rfl rfl rfl rfl rfl (by kernel_rfl) Try.func5 (by kernel_rfl)
    (of_decide_eq_true (by kernel_rfl)) (by unfold Func.isWrapper; first | (rw [if_pos (by decide +kernel)]; kernel_rfl) | (rw [if_neg (by decide +kernel)]; exact ⟨rfl, rfl⟩))
    (fun os started H enc _ => lifted os started H enc)
end wordBack
end Go.Proofs.Ytcbdnndgnbgnaaa
