/-
  Words, walked; words in a row that may be written to. (Own work.)
-/
import Derived.Test.YtiomciifhkbklaaH1
import Derived.Test.YtiomciifhkbklaaF1
set_option linter.unusedVariables false
set_option linter.unusedSimpArgs false
namespace Go.Proofs.Ytiomciifhkbklaa
open Go Go.Abs

/-- A word. -/
@[reducible] def word (p : Bool) (n : Int) : V := .agg [.bool p, .int .i64 n]
@[reducible] def wv (w : Wd) : V := word w.p w.v
@[reducible] def argErr : V := .iface 39 (.int .i64 1)
@[reducible] def fullErr : V := .iface 39 (.int .i64 7)
theorem k_Int (n : Int) (σ : Sg) : ACalls Try.prog 7 [.v (.int .i64 n)] σ fun r σ' => r = .v (word false n) ∧ σ' = σ := by
  refine acalls_fit Try.func7 (by kernel_rfl) c7 rfl (by simp [a7]) fun hf => ?_
  simp -implicitDefEqProofs (maxSteps := 2000000) (disch := omega) [-getElem?_pos, a7]
  exact .fin _ ⟨rfl, rfl⟩ (.refl _)
theorem k_At (n : Int) (σ : Sg) : ACalls Try.prog 10 [.v (.int .i64 n)] σ fun r σ' => r = .v (word true n) ∧ σ' = σ := by
  refine acalls_fit Try.func10 (by kernel_rfl) c10 rfl (by simp [a10]) fun hf => ?_
  simp -implicitDefEqProofs (maxSteps := 2000000) (disch := omega) [-getElem?_pos, a10]
  exact .fin _ ⟨rfl, rfl⟩ (.refl _)
theorem k_Moved (p : Bool) (n : Int) (σ : Sg) : ACalls Try.prog 47 [.v (word p n)] σ fun r σ' => r = .tup [.v (.int .i64 (if p = true then n else 0)), .v (.bool p)] ∧ σ' = σ := by
  refine acalls_fit Try.func47 (by kernel_rfl) c47 rfl (by simp [a47]) fun hf => ?_
  cases p with
  | true =>
    simp -implicitDefEqProofs (maxSteps := 2000000) (disch := omega) [-getElem?_pos, a47]
    exact .fin _ ⟨rfl, rfl⟩ (.refl _)
  | false =>
    simp -implicitDefEqProofs (maxSteps := 2000000) (disch := omega) [-getElem?_pos, a47]
    exact .fin _ ⟨rfl, rfl⟩ (.refl _)
/-- What a head says: its kind, its size; is it one? -/
def parts (p : Bool) (n : Int) : List V := if p = true ∨ n < 0 ∨ 64016 ≤ n then [.int .i64 0, .int .i64 0, .bool false] else [.int .i64 (n % 16), .int .i64 (n / 16), .bool true]
theorem k_Parts (p : Bool) (n : Int) (σ : Sg) : ACalls Try.prog 37 [.v (word p n)] σ fun r σ' => r = .tup ((parts p n).map .v) ∧ σ' = σ := by
  refine acalls_fit Try.func37 (by kernel_rfl) c37 rfl (by simp [a37]) fun hf => ?_
  by_cases h1 : p = true
  · simp -implicitDefEqProofs (maxSteps := 2000000) (disch := omega) [-getElem?_pos, a37, h1, parts]
    exact .fin _ ⟨rfl, rfl⟩ (.refl _)
  by_cases h2 : n < 0
  · simp -implicitDefEqProofs (maxSteps := 2000000) (disch := omega) [-getElem?_pos, a37, h1, h2, parts]
    exact .fin _ ⟨rfl, rfl⟩ (.refl _)
  have h2' : 0 ≤ n := by omega
  by_cases h3 : 64016 ≤ n
  · simp -implicitDefEqProofs (maxSteps := 2000000) (disch := omega) [-getElem?_pos, a37, h1, h2, h2', h3, parts]
    exact .fin _ ⟨rfl, rfl⟩ (.refl _)
  simp -implicitDefEqProofs (maxSteps := 2000000) (disch := omega) [-getElem?_pos, a37, h1, h2, h2', h3, parts, Int.tdiv_eq_ediv_of_nonneg, Int.tmod_eq_emod_of_nonneg]
  exact .fin _ ⟨rfl, rfl⟩ (.refl _)
/-- A kind and a size that make a head. -/
def headOk (k z : Int) : Prop := 0 ≤ k ∧ k < 16 ∧ 0 ≤ z ∧ z ≤ 4000
instance (k z : Int) : Decidable (headOk k z) := by unfold headOk; infer_instance
theorem k_Head (k z : Int) (σ : Sg) : ACalls Try.prog 28 [.v (.int .i64 k), .v (.int .i64 z)] σ fun r σ' =>
    r = (if headOk k z then .tup [.v (word false (z * 16 + k)), .v .inil] else .tup [.v (word false 0), .v argErr]) ∧ σ' = σ := by
  refine acalls_fit Try.func28 (by kernel_rfl) c28 rfl (by simp [a28]) fun hf => ?_
  by_cases h1 : k < 0
  · have hh : ¬ headOk k z := by unfold headOk; omega
    simp -implicitDefEqProofs (maxSteps := 2000000) (disch := omega) [-getElem?_pos, a28, h1, hh]
    exact .fin _ ⟨rfl, rfl⟩ (.refl _)
  by_cases h2 : 16 ≤ k
  · have hh : ¬ headOk k z := by unfold headOk; omega
    simp -implicitDefEqProofs (maxSteps := 2000000) (disch := omega) [-getElem?_pos, a28, h1, h2, hh]
    exact .fin _ ⟨rfl, rfl⟩ (.refl _)
  by_cases h3 : z < 0
  · have hh : ¬ headOk k z := by unfold headOk; omega
    simp -implicitDefEqProofs (maxSteps := 2000000) (disch := omega) [-getElem?_pos, a28, h1, h2, h3, hh]
    exact .fin _ ⟨rfl, rfl⟩ (.refl _)
  by_cases h4 : 4000 < z
  · have hh : ¬ headOk k z := by unfold headOk; omega
    simp -implicitDefEqProofs (maxSteps := 2000000) (disch := omega) [-getElem?_pos, a28, h1, h2, h3, h4, hh]
    exact .fin _ ⟨rfl, rfl⟩ (.refl _)
  have hh : headOk k z := by unfold headOk; omega
  simp -implicitDefEqProofs (maxSteps := 2000000) (disch := omega) [-getElem?_pos, a28, h1, h2, h3, h4, hh]
  refine (k_Int _ _).then fun r hr => ?_
  subst hr
  simp -implicitDefEqProofs (maxSteps := 2000000) (disch := omega) [-getElem?_pos]
  exact .fin _ ⟨rfl, rfl⟩ (.refl _)
end Go.Proofs.Ytiomciifhkbklaa
