/-
  Contracts of the word package's small functions. (Own work.)
-/
import Derived.Test.YtcbdnndgnbgnaaaF1
set_option linter.unusedVariables false
set_option linter.unusedSimpArgs false
namespace Go.Proofs.Ytcbdnndgnbgnaaa
open Go Go.Abs

/-- A word. -/
@[reducible] def word (p : Bool) (n : Int) : V := .agg [.bool p, .int .i64 n]
@[reducible] def argErr : V := .iface 32 (.int .i64 1)

theorem k_Int (n : Int) (σ : Sg) : ACalls Try.prog 17 [.v (.int .i64 n)] σ fun r σ' => r = .v (word false n) ∧ σ' = σ := by
  refine acalls_fit Try.func17 (by kernel_rfl) c17 rfl (by simp [a17]) fun hf => ?_
  simp -implicitDefEqProofs (maxSteps := 2000000) (disch := omega) [-getElem?_pos, a17]
  exact .mkO _ ⟨rfl, rfl⟩ (.refl _) trivial

theorem k_At (n : Int) (σ : Sg) : ACalls Try.prog 18 [.v (.int .i64 n)] σ fun r σ' => r = .v (word true n) ∧ σ' = σ := by
  refine acalls_fit Try.func18 (by kernel_rfl) c18 rfl (by simp [a18]) fun hf => ?_
  simp -implicitDefEqProofs (maxSteps := 2000000) (disch := omega) [-getElem?_pos, a18]
  exact .mkO _ ⟨rfl, rfl⟩ (.refl _) trivial

theorem k_As (p : Bool) (n : Int) (σ : Sg) : ACalls Try.prog 13 [.v (word p n)] σ fun r σ' => r = .v (word p n) ∧ σ' = σ := by
  refine acalls_fit Try.func13 (by kernel_rfl) c13 rfl (by simp [a13]) fun hf => ?_
  simp -implicitDefEqProofs (maxSteps := 2000000) (disch := omega) [-getElem?_pos, a13]
  exact .mkO _ ⟨rfl, rfl⟩ (.refl _) trivial

theorem k_Moved (p : Bool) (n : Int) (σ : Sg) : ACalls Try.prog 16 [.v (word p n)] σ fun r σ' => r = .tup [.v (.int .i64 (if p = true then n else 0)), .v (.bool p)] ∧ σ' = σ := by
  refine acalls_fit Try.func16 (by kernel_rfl) c16 rfl (by simp [a16]) fun hf => ?_
  simp -implicitDefEqProofs (maxSteps := 2000000) (disch := omega) [-getElem?_pos, a16]
  refine ⟨fun h => ?_, fun h => ?_⟩
  · simp [h]
    exact .mkO _ ⟨rfl, rfl⟩ (.refl _) (by simp)
  · simp [h]
    exact .mkO _ ⟨rfl, rfl⟩ (.refl _) (by simp)

/-- What a head says: its kind, its size; is it one? -/
def parts (p : Bool) (n : Int) : List V := if p = true ∨ n < 0 ∨ 64016 ≤ n then [.int .i64 0, .int .i64 0, .bool false] else [.int .i64 (n % 16), .int .i64 (n / 16), .bool true]

theorem k_Parts (p : Bool) (n : Int) (σ : Sg) : ACalls Try.prog 14 [.v (word p n)] σ fun r σ' => r = .tup ((parts p n).map .v) ∧ σ' = σ := by
  refine acalls_fit Try.func14 (by kernel_rfl) c14 rfl (by simp [a14]) fun hf => ?_
  by_cases h1 : p = true
  · simp -implicitDefEqProofs (maxSteps := 2000000) (disch := omega) [-getElem?_pos, a14, h1, parts]
    exact .mkO _ ⟨rfl, rfl⟩ (.refl _) (by simp)
  by_cases h2 : n < 0
  · simp -implicitDefEqProofs (maxSteps := 2000000) (disch := omega) [-getElem?_pos, a14, h1, h2, parts]
    exact .mkO _ ⟨rfl, rfl⟩ (.refl _) (by simp)
  have h2' : 0 ≤ n := by omega
  by_cases h3 : 64016 ≤ n
  · simp -implicitDefEqProofs (maxSteps := 2000000) (disch := omega) [-getElem?_pos, a14, h1, h2, h2', h3, parts]
    exact .mkO _ ⟨rfl, rfl⟩ (.refl _) (by simp)
  simp -implicitDefEqProofs (maxSteps := 2000000) (disch := omega) [-getElem?_pos, a14, h1, h2, h2', h3, parts, Int.tdiv_eq_ediv_of_nonneg, Int.tmod_eq_emod_of_nonneg]
  exact .mkO _ ⟨rfl, rfl⟩ (.refl _) (by simp)

theorem k_RParts (p : Bool) (n : Int) (σ : Sg) : ACalls Try.prog 15 [.v (word p n)] σ fun r σ' => r = .tup ((parts p n).map .v) ∧ σ' = σ := by
  refine acalls_fit Try.func15 (by kernel_rfl) c15 rfl (by simp [a15]) fun hf => ?_
  by_cases h1 : p = true
  · simp -implicitDefEqProofs (maxSteps := 2000000) (disch := omega) [-getElem?_pos, a15, h1, parts]
    exact .mkO _ ⟨rfl, rfl⟩ (.refl _) (by simp)
  by_cases h2 : n < 0
  · simp -implicitDefEqProofs (maxSteps := 2000000) (disch := omega) [-getElem?_pos, a15, h1, h2, parts]
    exact .mkO _ ⟨rfl, rfl⟩ (.refl _) (by simp)
  have h2' : 0 ≤ n := by omega
  by_cases h3 : 64016 ≤ n
  · have h3' : 64015 < n := by omega
    simp -implicitDefEqProofs (maxSteps := 2000000) (disch := omega) [-getElem?_pos, a15, h1, h2, h2', h3, h3', parts]
    exact .mkO _ ⟨rfl, rfl⟩ (.refl _) (by simp)
  have h3' : ¬ 64015 < n := by omega
  simp -implicitDefEqProofs (maxSteps := 2000000) (disch := omega) [-getElem?_pos, a15, h1, h2, h2', h3, h3', parts, Int.tdiv_eq_ediv_of_nonneg, Int.tmod_eq_emod_of_nonneg]
  exact .mkO _ ⟨rfl, rfl⟩ (.refl _) (by simp)

/-- A kind and a size that make a head. -/
def headOk (k z : Int) : Prop := 0 ≤ k ∧ k < 16 ∧ 0 ≤ z ∧ z ≤ 4000

theorem k_Head (k z : Int) (σ : Sg) : ACalls Try.prog 11 [.v (.int .i64 k), .v (.int .i64 z)] σ fun r σ' =>
    (headOk k z → r = .tup [.v (word false (z * 16 + k)), .v .inil]) ∧ (¬ headOk k z → r = .tup [.v (word false 0), .v argErr]) ∧ σ' = σ := by
  refine acalls_fit Try.func11 (by kernel_rfl) c11 rfl (by simp [a11]) fun hf => ?_
  by_cases h1 : k < 0
  · have hh : ¬ headOk k z := by unfold headOk; omega
    simp -implicitDefEqProofs (maxSteps := 2000000) (disch := omega) [-getElem?_pos, a11, h1, hh]
    exact .mkO _ ⟨rfl, rfl⟩ (.refl _) (by simp)
  by_cases h2 : 16 ≤ k
  · have hh : ¬ headOk k z := by unfold headOk; omega
    simp -implicitDefEqProofs (maxSteps := 2000000) (disch := omega) [-getElem?_pos, a11, h1, h2, hh]
    exact .mkO _ ⟨rfl, rfl⟩ (.refl _) (by simp)
  by_cases h3 : z < 0
  · have hh : ¬ headOk k z := by unfold headOk; omega
    simp -implicitDefEqProofs (maxSteps := 2000000) (disch := omega) [-getElem?_pos, a11, h1, h2, h3, hh]
    exact .mkO _ ⟨rfl, rfl⟩ (.refl _) (by simp)
  by_cases h4 : 4000 < z
  · have hh : ¬ headOk k z := by unfold headOk; omega
    simp -implicitDefEqProofs (maxSteps := 2000000) (disch := omega) [-getElem?_pos, a11, h1, h2, h3, h4, hh]
    exact .mkO _ ⟨rfl, rfl⟩ (.refl _) (by simp)
  have hh : headOk k z := by unfold headOk; omega
  simp -implicitDefEqProofs (maxSteps := 2000000) (disch := omega) [-getElem?_pos, a11, h1, h2, h3, h4, hh]
  refine (k_Int _ _).then fun r hr => ?_
  subst hr
  simp -implicitDefEqProofs (maxSteps := 2000000) (disch := omega) [-getElem?_pos, hh]
  exact .mkO _ ⟨rfl, rfl⟩ (.refl _) (by simp)

theorem k_RHead (k z : Int) (σ : Sg) : ACalls Try.prog 12 [.v (.int .i64 k), .v (.int .i64 z)] σ fun r σ' =>
    (headOk k z → r = .tup [.v (word false (z * 16 + k)), .v (.bool true)]) ∧ (¬ headOk k z → r = .tup [.v (word false 0), .v (.bool false)]) ∧ σ' = σ := by
  refine acalls_fit Try.func12 (by kernel_rfl) c12 rfl (by simp [a12]) fun hf => ?_
  by_cases h1 : k < 0
  · have hh : ¬ headOk k z := by unfold headOk; omega
    simp -implicitDefEqProofs (maxSteps := 2000000) (disch := omega) [-getElem?_pos, a12, h1, hh]
    exact .mkO _ ⟨rfl, rfl⟩ (.refl _) (by simp)
  by_cases h2 : 15 < k
  · have hh : ¬ headOk k z := by unfold headOk; omega
    simp -implicitDefEqProofs (maxSteps := 2000000) (disch := omega) [-getElem?_pos, a12, h1, h2, hh]
    exact .mkO _ ⟨rfl, rfl⟩ (.refl _) (by simp)
  by_cases h3 : z < 0
  · have hh : ¬ headOk k z := by unfold headOk; omega
    simp -implicitDefEqProofs (maxSteps := 2000000) (disch := omega) [-getElem?_pos, a12, h1, h2, h3, hh]
    exact .mkO _ ⟨rfl, rfl⟩ (.refl _) (by simp)
  by_cases h4 : 4000 < z
  · have hh : ¬ headOk k z := by unfold headOk; omega
    simp -implicitDefEqProofs (maxSteps := 2000000) (disch := omega) [-getElem?_pos, a12, h1, h2, h3, h4, hh]
    exact .mkO _ ⟨rfl, rfl⟩ (.refl _) (by simp)
  have hh : headOk k z := by unfold headOk; omega
  simp -implicitDefEqProofs (maxSteps := 2000000) (disch := omega) [-getElem?_pos, a12, h1, h2, h3, h4, hh]
  rw [Int.mul_comm 16 z]
  exact .mkO _ ⟨rfl, rfl⟩ (.refl _) (by simp)
end Go.Proofs.Ytcbdnndgnbgnaaa
