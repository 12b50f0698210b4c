/-
  bushellaw01.WordPacks: for every input the law returns true, and each argument reads behind the call as it read before. No conditions.
-/
import Derived.Test.YtcbdnndgnbgnaaaArgs
set_option linter.unusedVariables false
set_option linter.unusedSimpArgs false
namespace Go.Proofs.Ytcbdnndgnbgnaaa
open Go Go.Abs

namespace wordPacks
set_option maxRecDepth 100000 in
theorem lifted (os : Os) (started : os.Started) (H : Type) (enc : TypeId × Value → H) :
    ReturnsInHanded {} Try.checked os 4 .any (Rows.wordPacksSpec.pre6 enc Try.prog Try.f4 Rows.wordPacksRow.domain false) (Rows.wordPacksSpec.post enc Try.prog Try.f4 false true false false) := by
  refine returnsInHanded_of_change (C := Try.checked) own started (by kernel_rfl) Try.func4
    (ChangeSpec.witness6 (enc := enc) (C := Try.checked) false ⟨#[], #[.slice none 0 0, .slice none 0 0], []⟩ 8 (by kernel_rfl) (by kernel_rfl) (by kernel_rfl) (by kernel_rfl)) ?_
  intro W base args ds gs before hval hW _ _
  refine law_calls (T := [2, 4, 5, 42, 23, 43]) (by kernel_rfl) laidOut (by kernel_rfl) (rt := 4) rfl (by kernel_rfl) hval _ rfl hW (fun ds hl => ?_) fun xs hxs _ => ?_
  · match ds, hl with
    | [_, _], _ => rfl
  · match xs, hxs with
    | [_, _], ⟨a1, a2, _⟩ =>
      obtain ⟨bs, rfl, _⟩ := a1.bytes (e := 5) (by kernel_rfl) (by kernel_rfl) (by kernel_rfl) (by kernel_rfl)
      obtain ⟨l, rfl⟩ := words_of a2
      exact k_WordPacks bs l false false _

theorem proved : Rows.WordPacksSaid :=
  OpenClaim.holds_of_wide 4 Try.f4 rfl rfl rfl rfl rfl rfl rfl ⟨rfl, rfl, rfl, rfl, rfl⟩ rfl rfl rfl rfl rfl (by kernel_rfl) Try.func4 (by kernel_rfl)
    (of_decide_eq_true (by kernel_rfl)) (by unfold Func.isWrapper; first | (rw [if_pos (by decide +kernel)]; kernel_rfl) | (rw [if_neg (by decide +kernel)]; exact ⟨rfl, rfl⟩))
    (fun os started H enc _ => lifted os started H enc)
end wordPacks
end Go.Proofs.Ytcbdnndgnbgnaaa
