/-
  Layer 14: what is told of an expression, walked. (Own work.)
-/
import Derived.Test.YtbifjffjibnjjaaDoorG6
set_option linter.unusedVariables false
set_option linter.unusedSimpArgs false
namespace Go.Proofs.YtbifjffjibnjjaaDoor
open Go Go.Abs

theorem k_CoreTells {a b : Co} {σ : Sg} (ha : csz a ≤ 1048576) (hb : csz b ≤ 1048576) : ACalls Tryd.prog 5 [.v (encC a), .v (encC b)] σ fun r σ' => r = .v (.bool true) := by
  have f1 := fun σ => k_Few (e := a) (σ := σ) ha
  have f2 := fun σ => k_Few (e := b) (σ := σ) hb
  have f3 := fun σ => k_Free a (σ := σ) ha
  have f4 := fun σ => k_RFree a (σ := σ) ha
  have f5 := fun σ => k_Nodes a (σ := σ) ha
  have f6 := fun σ => k_RNodes a (σ := σ) ha
  have f7 := fun σ => k_Same a b (σ := σ)
  have f8 := fun σ => k_RSame a b (σ := σ) ha
  have f9 := fun σ => k_Same a a (σ := σ)
  obtain ⟨a0, ha0⟩ : ∃ a0, a0 = a := ⟨_, rfl⟩
  obtain ⟨b0, hb0⟩ : ∃ b0, b0 = b := ⟨_, rfl⟩
  cases a with
  | mk k1 n1 s1 t1 ns1 l1 =>
  cases b with
  | mk k2 n2 s2 t2 ns2 l2 =>
  rw [encC_mk] at f1 f2 f3 f4 f5 f6 f9
  rw [encC_mk, encC_mk] at f7 f8
  rw [encC_mk, encC_mk]
  simp only [← ha0, ← hb0] at f3 f4 f5 f6 f7 f8 f9
  refine acalls_fit Tryd.func5 (by kernel_rfl) c5 rfl (by simp [a5]) fun hf => ?_
  clear hf
  simp -implicitDefEqProofs (maxSteps := 2000000) (disch := omega) [-getElem?_pos, a5]
  refine k_Up14.then fun r hr => ?_
  subst hr
  simp -implicitDefEqProofs (maxSteps := 2000000) (disch := omega) [-getElem?_pos]
  refine (f1 _).then fun r hr => ?_
  obtain ⟨q1, rfl⟩ := hr
  simp -implicitDefEqProofs (maxSteps := 2000000) (disch := omega) [-getElem?_pos]
  refine (f2 _).then fun r hr => ?_
  obtain ⟨q2, rfl⟩ := hr
  cases q1 with
  | false =>
    simp -implicitDefEqProofs (maxSteps := 2000000) (disch := omega) [-getElem?_pos]
    exact .fin _ rfl (.refl _)
  | true =>
  cases q2 with
  | false =>
    simp -implicitDefEqProofs (maxSteps := 2000000) (disch := omega) [-getElem?_pos]
    exact .fin _ rfl (.refl _)
  | true =>
  simp -implicitDefEqProofs (maxSteps := 2000000) (disch := omega) [-getElem?_pos]
  refine (f3 _).then fun r hr => ?_
  subst hr
  simp -implicitDefEqProofs (maxSteps := 2000000) (disch := omega) [-getElem?_pos]
  refine (f4 _).then fun r hr => ?_
  subst hr
  simp -implicitDefEqProofs (maxSteps := 2000000) (disch := omega) [-getElem?_pos]
  refine k_RTexts.then fun r hr => ?_
  subst hr
  simp -implicitDefEqProofs (maxSteps := 2000000) (disch := omega) [-getElem?_pos]
  refine (f5 _).then fun r hr => ?_
  subst hr
  simp -implicitDefEqProofs (maxSteps := 2000000) (disch := omega) [-getElem?_pos]
  refine (f6 _).then fun r hr => ?_
  subst hr
  simp -implicitDefEqProofs (maxSteps := 2000000) (disch := omega) [-getElem?_pos]
  refine (f7 _).then fun r hr => ?_
  subst hr
  simp -implicitDefEqProofs (maxSteps := 2000000) (disch := omega) [-getElem?_pos]
  refine (f8 _).then fun r hr => ?_
  subst hr
  simp -implicitDefEqProofs (maxSteps := 2000000) (disch := omega) [-getElem?_pos]
  refine (f9 _).then fun r hr => ?_
  subst hr
  simp -implicitDefEqProofs (maxSteps := 2000000) (disch := omega) [-getElem?_pos]
  exact .fin _ rfl (.refl _)
end Go.Proofs.YtbifjffjibnjjaaDoor
