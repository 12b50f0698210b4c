/-
  Layer 19: the statements, walked. (Own work.)
-/
import Derived.Test.YtcbdnndgnbgnaaaC12
set_option linter.unusedVariables false
set_option linter.unusedSimpArgs false
namespace Go.Proofs.Ytcbdnndgnbgnaaa
open Go Go.Abs

theorem intCode : intTy Try.prog 32 = true := by kernel_rfl
def readM : Img := ⟨[], [], [⟨2, 0, [⟨18, 0, []⟩, ⟨24, 0, [0]⟩]⟩]⟩
theorem read_le : VLe (.agg [.snil, .snil, .sl (some 3) true [.agg [vi 2, vi 0, .sl (some 3) true [.agg [vi 18, vi 0, .snil], .agg [vi 24, vi 0, .sl none true [vi 0]]]]]]) (encM readM) := by
  refine .agg ⟨.snil, .snil, .sl rfl (by simp) (by simp [V.flat, readM]) ⟨.refl _, .refl _, .sl rfl (by simp) (by simp [V.flat]) ⟨.refl _, .refl _, .snil, .refl _, .refl _, .lax, trivial⟩, trivial⟩, trivial⟩ (by simp)

theorem k_Read {σ : Sg} : ACalls Try.prog 62 [] σ fun r σ' => r = .v (encM readM) ∧ σ' = σ := by
  refine acalls_fit Try.func62 (by kernel_rfl) c62 rfl (by simp [a62]) fun hf => ?_
  simp -implicitDefEqProofs (maxSteps := 2000000) (disch := omega) [-getElem?_pos, a62]
  exact .fin _ ⟨rfl, rfl⟩ read_le.d

theorem read_sound : checkS readM = true := by kernel_rfl
theorem none_sound : checkS ⟨[], [], []⟩ = false := by kernel_rfl
theorem read_ok : okM readM := by simp [okM, okF, okI, in64, readM]
theorem read_get : getS (putM readM) = some readM := getS_put read_ok read_sound
theorem read_len : (putM readM).length = 13 := by kernel_rfl
theorem none_le : VLe (.agg [.snil, .snil, .snil]) (encM ⟨[], [], []⟩) := .agg ⟨.snil, .snil, .snil, trivial⟩ (by simp)

theorem k_Up {σ : Sg} : ACalls Try.prog 42 [] σ fun r σ' => r = .v (.bool true) ∧ σ' = σ := by
  refine acalls_fit Try.func42 (by kernel_rfl) c42 rfl (by simp [a42]) fun hf => ?_
  clear hf
  simp -implicitDefEqProofs (maxSteps := 2000000) (disch := omega) [-getElem?_pos, a42]
  refine k_Read.then fun r hr => ?_
  subst hr
  simp -implicitDefEqProofs (maxSteps := 2000000) (disch := omega) [-getElem?_pos]
  refine (k_Put (by rw [read_len]; omega) (by simp [codeLen, readM])).then fun r hr => ?_
  subst hr
  simp -implicitDefEqProofs (maxSteps := 2000000) (disch := omega) [-getElem?_pos, read_sound]
  refine (k_Get (by rw [read_len]; omega)).then fun r hr => ?_
  subst hr
  rw [read_get]
  simp only [Option.getD_some, Option.isSome_some, if_true]
  simp -implicitDefEqProofs (maxSteps := 2000000) (disch := omega) [-getElem?_pos, errOf]
  refine k_Read.then fun r hr => ?_
  subst hr
  simp -implicitDefEqProofs (maxSteps := 2000000) (disch := omega) [-getElem?_pos]
  refine (k_Check (by simp [codeLen, readM])).then fun r hr => ?_
  subst hr
  simp -implicitDefEqProofs (maxSteps := 2000000) (disch := omega) [-getElem?_pos, read_sound, errOf]
  refine ((k_Check (m := ⟨[], [], []⟩) (by simp [codeLen])).arg1 none_le.d).then fun r hr => ?_
  subst hr
  simp -implicitDefEqProofs (maxSteps := 2000000) (disch := omega) [-getElem?_pos, none_sound, errOf, intCode]
  refine k_Read.then fun r hr => ?_
  subst hr
  simp -implicitDefEqProofs (maxSteps := 2000000) (disch := omega) [-getElem?_pos]
  refine (k_Same (x := readM) (y := readM)).then fun r hr => ?_
  subst hr
  simp -implicitDefEqProofs (maxSteps := 2000000) (disch := omega) [-getElem?_pos]
  rw [read_len]
  simp -implicitDefEqProofs (maxSteps := 2000000) (disch := omega) [-getElem?_pos]
  exact .fin _ ⟨rfl, rfl⟩ (.refl _)
end Go.Proofs.Ytcbdnndgnbgnaaa
