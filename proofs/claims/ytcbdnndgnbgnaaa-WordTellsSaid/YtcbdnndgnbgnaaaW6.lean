/-
  bushellaw01.WordTells: for every input the law returns true, and each argument reads behind the call as it read before. No conditions.
-/
import Derived.Test.YtcbdnndgnbgnaaaArgs
set_option linter.unusedVariables false
set_option linter.unusedSimpArgs false
namespace Go.Proofs.Ytcbdnndgnbgnaaa
open Go Go.Abs

namespace wordTells
set_option maxRecDepth 100000 in
theorem lifted (os : Os) (started : os.Started) (H : Type) (enc : TypeId × Value → H) :
    ReturnsInHanded {} Try.checked os 3 .any (Rows.wordTellsSpec.pre6 enc Try.prog Try.f3 Rows.wordTellsRow.domain false) (Rows.wordTellsSpec.post enc Try.prog Try.f3 false true false false) := by
  refine returnsInHanded_of_change (C := Try.checked) own started (by kernel_rfl) Try.func3
    (ChangeSpec.witness6 (enc := enc) (C := Try.checked) false ⟨#[], #[.int .i64 0, .int .i64 0, .agg #[.bool false, .int .i64 0], .int .i64 0, .int .i64 0], []⟩ 8 (by kernel_rfl) (by kernel_rfl) (by kernel_rfl) (by kernel_rfl)) ?_
  intro W base args ds gs before hval hW _ _
  refine law_calls (T := [3, 2, 4, 23]) (by kernel_rfl) laidOut (by kernel_rfl) (rt := 4) rfl (by kernel_rfl) hval _ rfl hW (fun ds hl => ?_) fun xs hxs _ => ?_
  · match ds, hl with
    | [_, _, _, _, _], _ => rfl
  · match xs, hxs with
    | [_, _, _, _, _], ⟨a1, a2, a3, a4, a5, _⟩ =>
      obtain ⟨kind, rfl, _⟩ := a1.int (k := .i64) (by kernel_rfl) (by kernel_rfl)
      obtain ⟨size, rfl, _⟩ := a2.int (k := .i64) (by kernel_rfl) (by kernel_rfl)
      obtain ⟨w, rfl⟩ := word_of a3
      obtain ⟨n, rfl, _⟩ := a4.int (k := .i64) (by kernel_rfl) (by kernel_rfl)
      obtain ⟨place, rfl, _⟩ := a5.int (k := .i64) (by kernel_rfl) (by kernel_rfl)
      exact k_WordTells kind size w n place _

theorem proved : Rows.WordTellsSaid :=
  OpenClaim.holds_of_wide 3 Try.f3 rfl rfl rfl rfl rfl rfl rfl ⟨rfl, rfl, rfl, rfl, rfl⟩ rfl rfl rfl rfl rfl (by kernel_rfl) Try.func3 (by kernel_rfl)
    (of_decide_eq_true (by kernel_rfl)) (by unfold Func.isWrapper; first | (rw [if_pos (by decide +kernel)]; kernel_rfl) | (rw [if_neg (by decide +kernel)]; exact ⟨rfl, rfl⟩))
    (fun os started H enc _ => lifted os started H enc)
end wordTells
end Go.Proofs.Ytcbdnndgnbgnaaa
