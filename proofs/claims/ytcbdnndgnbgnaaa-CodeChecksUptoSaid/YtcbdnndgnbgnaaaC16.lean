/-
  bushellaw19.CodeChecks: for every input the law returns true, and each argument reads behind the call as it read before. Condition: the arguments are of the bulk that the second form grants.
-/
import Derived.Test.YtcbdnndgnbgnaaaC15
set_option linter.unusedVariables false
set_option linter.unusedSimpArgs false
namespace Go.Proofs.Ytcbdnndgnbgnaaa
open Go Go.Abs

namespace codeChecks
set_option maxRecDepth 100000 in
theorem lifted (os : Os) (started : os.Started) (H : Type) (enc : TypeId × Value → H) (F : Stop.Interp) :
    ReturnsInHanded {} Try.checked os 8 .any ((Rows.OpenSpec.upto Rows.codeChecksSpec).pre6 enc Try.prog Try.f8 Rows.codeChecksUptoRow.domain false) (((Rows.OpenSpec.upto Rows.codeChecksSpec).at F).post enc Try.prog Try.f8 false true false false) := by
  refine returnsInHanded_of_cond (C := Try.checked) (s := Rows.OpenSpec.upto Rows.codeChecksSpec) (k := Rows.uptoSmall) rfl own started (by kernel_rfl) Try.func8
    (OpenSpec.witness (enc := enc) (C := Try.checked) (s := Rows.OpenSpec.upto Rows.codeChecksSpec) (k := Rows.uptoSmall) rfl false ⟨#[], #[.agg #[.slice none 0 0, .slice none 0 0, .slice none 0 0], .agg #[.slice none 0 0, .slice none 0 0, .slice none 0 0]], []⟩ 8 (by kernel_rfl) (by kernel_rfl) (by kernel_rfl)
      (x := ([.agg [.nil, .nil, .nil], .agg [.nil, .nil, .nil]], [], [])) (by kernel_rfl) rfl (by kernel_rfl)) ?_
  intro W base args ds gs before hval hW _ hk _
  refine law_calls (T := [3, 2, 4, 56, 67, 9, 90, 119, 115, 117, 91, 93]) (by kernel_rfl) laidOut (by kernel_rfl) (rt := 4) rfl (by kernel_rfl) hval _ rfl hW (fun ds hl => ?_) fun xs hxs hbk => ?_
  · match ds, hl with
    | [_, _], _ => rfl
  · replace hbk := Nat.le_trans hbk (of_decide_eq_true hk)
    match xs, hxs with
    | [_, _], ⟨a1, a2, _⟩ =>
      obtain ⟨m, rfl⟩ := img_of a1
      obtain ⟨n, rfl⟩ := img_of a2
      simp only [V.bulkL] at hbk
      exact k_CodeChecks (by omega) (by omega)

theorem proved : Rows.CodeChecksUptoSaid :=
  OpenClaim.holds_of_cond 8 Try.f8 rfl rfl rfl rfl rfl rfl rfl ⟨rfl, rfl, rfl, rfl, rfl⟩ rfl rfl rfl rfl rfl (by kernel_rfl) Try.func8 (by kernel_rfl)
    (of_decide_eq_true (by kernel_rfl)) (by unfold Func.isWrapper; first | (rw [if_pos (by decide +kernel)]; kernel_rfl) | (rw [if_neg (by decide +kernel)]; exact ⟨rfl, rfl⟩))
    (fun os started H enc _ F => lifted os started H enc F)
end codeChecks
end Go.Proofs.Ytcbdnndgnbgnaaa
