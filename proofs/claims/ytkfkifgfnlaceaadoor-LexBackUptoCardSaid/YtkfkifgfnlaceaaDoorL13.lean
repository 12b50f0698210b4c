/-
  LexQuotes: the law. (Own work.)
-/
import Derived.Test.YtkfkifgfnlaceaaDoorL12
set_option linter.unusedVariables false
set_option linter.unusedSimpArgs false
namespace Go.Proofs.YtkfkifgfnlaceaaDoor
open Go Go.Abs

theorem k_Quotes {b : Str} {σ : Sg} (hb : b.length ≤ 1048576) : ACalls Tryd.prog 7 [.v (.str b)] σ fun r σ' => r = .v (.bool true) ∧ σ' = σ := by
  have q1 := k_Quote (σ := σ) hb
  have q2 := k_RQuote (σ := σ) hb
  refine acalls_fit Tryd.func7 (by kernel_rfl) c7 rfl (by simp [a7]) fun hf => ?_
  clear hf
  simp -implicitDefEqProofs (maxSteps := 2000000) (disch := omega) [-getElem?_pos, a7]
  refine k_Up.then fun r hr => ?_
  subst hr
  simp -implicitDefEqProofs (maxSteps := 2000000) (disch := omega) [-getElem?_pos]
  refine .mk (fun h => ?_) fun h => ?_
  · simp -implicitDefEqProofs (maxSteps := 2000000) (disch := omega) [-getElem?_pos]
    exact .fin _ ⟨rfl, rfl⟩ (.refl _)
  simp -implicitDefEqProofs (maxSteps := 2000000) (disch := omega) [-getElem?_pos]
  refine q1.then fun r hr => ?_
  unfold quoteE at hr
  cases hq : qL b [34] with
  | none =>
    rw [hq] at hr
    simp only [hq] at q2
    simp only [ite_self] at hr
    unfold QPost at hr
    dsimp only at hr
    subst hr
    simp -implicitDefEqProofs (maxSteps := 2000000) (disch := omega) [-getElem?_pos]
    refine q2.then fun r hr => ?_
    subst hr
    simp -implicitDefEqProofs (maxSteps := 2000000) (disch := omega) [-getElem?_pos]
    exact ⟨by kernel_rfl, .fin _ ⟨rfl, rfl⟩ (.refl _)⟩
  | some s =>
    simp only [hq] at q2
    by_cases h2 : 2000 < b.length
    · rw [if_pos h2] at hr
      unfold QPost at hr
      dsimp only at hr
      subst hr
      simp -implicitDefEqProofs (maxSteps := 2000000) (disch := omega) [-getElem?_pos]
      refine q2.then fun r hr => ?_
      subst hr
      simp -implicitDefEqProofs (maxSteps := 2000000) (disch := omega) [-getElem?_pos, h2]
      exact ⟨by kernel_rfl, .fin _ ⟨rfl, rfl⟩ (.refl _)⟩
    · rw [if_neg h2, hq] at hr
      unfold QPost at hr
      dsimp only at hr
      subst hr
      simp -implicitDefEqProofs (maxSteps := 2000000) (disch := omega) [-getElem?_pos]
      refine q2.then fun r hr => ?_
      subst hr
      simp -implicitDefEqProofs (maxSteps := 2000000) (disch := omega) [-getElem?_pos, h2]
      exact .fin _ ⟨rfl, rfl⟩ (.refl _)
end Go.Proofs.YtkfkifgfnlaceaaDoor
