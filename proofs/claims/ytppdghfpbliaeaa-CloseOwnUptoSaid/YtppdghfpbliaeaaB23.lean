/-
  bushellaw18.CloseOwn: for every input the law returns true, and each argument reads behind the call as it read before. Condition: the arguments are of the bulk that the second form grants.
-/
import Derived.Test.YtppdghfpbliaeaaB22
set_option linter.unusedVariables false
set_option linter.unusedSimpArgs false
namespace Go.Proofs.Ytppdghfpbliaeaa
open Go Go.Abs

namespace closeOwn
set_option maxRecDepth 100000 in
theorem lifted (os : Os) (started : os.Started) (H : Type) (enc : TypeId × Value → H) (F : Stop.Interp) :
    ReturnsInHanded {} Try.checked os 4 .any ((Rows.OpenSpec.upto Rows.closeOwnSpec).pre6 enc Try.prog Try.f4 Rows.closeOwnUptoRow.domain false) (((Rows.OpenSpec.upto Rows.closeOwnSpec).at F).post enc Try.prog Try.f4 false true false false) := by
  refine returnsInHanded_of_cond (C := Try.checked) (s := Rows.OpenSpec.upto Rows.closeOwnSpec) (k := Rows.uptoSmall) rfl own started (by kernel_rfl) Try.func4
    (OpenSpec.witness (enc := enc) (C := Try.checked) (s := Rows.OpenSpec.upto Rows.closeOwnSpec) (k := Rows.uptoSmall) rfl false ⟨#[], #[.agg #[.int .i64 0, .int .i64 0, .string .empty, .string .empty, .slice none 0 0, .slice none 0 0]], []⟩ 8 (by kernel_rfl) (by kernel_rfl) (by kernel_rfl)
      (x := ([.agg [.lit (.int .i64 0), .lit (.int .i64 0), .lit (.string []), .lit (.string []), .nil, .nil]], [], [])) (by kernel_rfl) rfl (by kernel_rfl)) ?_
  intro W base args ds gs before hval hW _ hk _
  refine law_calls (T := [3, 2, 4, 9, 22, 25, 23]) (by kernel_rfl) laidOut (by kernel_rfl) (rt := 4) rfl (by kernel_rfl) hval _ rfl hW (fun ds hl => ?_) fun xs hxs hbk => ?_
  · match ds, hl with
    | [_], _ => rfl
  · replace hbk := Nat.le_trans hbk (of_decide_eq_true hk)
    match xs, hxs with
    | [_], ⟨a1, _⟩ =>
      obtain ⟨e, rfl⟩ := core_of _ (Nat.le_refl _) a1
      simp only [V.bulkL, bulk_co] at hbk
      exact k_CloseOwn e (by omega)

theorem proved : Rows.CloseOwnUptoSaid :=
  OpenClaim.holds_of_cond 4 Try.f4 rfl rfl rfl rfl rfl rfl rfl ⟨rfl, rfl, rfl, rfl, rfl⟩ rfl rfl rfl rfl rfl (by kernel_rfl) Try.func4 (by kernel_rfl)
    (of_decide_eq_true (by kernel_rfl)) (by unfold Func.isWrapper; first | (rw [if_pos (by decide +kernel)]; kernel_rfl) | (rw [if_neg (by decide +kernel)]; exact ⟨rfl, rfl⟩))
    (fun os started H enc _ F => lifted os started H enc F)
end closeOwn
end Go.Proofs.Ytppdghfpbliaeaa
