/-
  Lexer: what bytes are. (Own work.)
-/
import Derived.Test.YtkfkifgfnlaceaaDoorAbsZ
import Derived.Test.YtkfkifgfnlaceaaDoorF1
set_option linter.unusedVariables false
set_option linter.unusedSimpArgs false
namespace Go.Proofs.YtkfkifgfnlaceaaDoor
open Go Go.Abs

def lowB (c : UInt8) : Bool := decide (97 ≤ c.toNat) && decide (c.toNat ≤ 122)
def uppB (c : UInt8) : Bool := decide (65 ≤ c.toNat) && decide (c.toNat ≤ 90)
def digB (c : UInt8) : Bool := decide (48 ≤ c.toNat) && decide (c.toNat ≤ 57)
def plaB (c : UInt8) : Bool := decide (32 ≤ c.toNat) && decide (c.toNat ≤ 126)
def blaB (c : UInt8) : Bool := decide (c.toNat = 32) || (decide (c.toNat = 10) || decide (c.toNat = 9))
def vB (c : UInt8) : D := .v (.int .u8 c.toNat)
theorem k_Lower {c : UInt8} {σ : Sg} : ACalls Tryd.prog 51 [vB c] σ fun r σ' => r = .v (.bool (lowB c)) ∧ σ' = σ := by
  unfold vB
  refine acalls_fit Tryd.func51 (by kernel_rfl) c51 rfl (by simp [a51]) fun hf => ?_
  clear hf
  simp -implicitDefEqProofs (maxSteps := 2000000) (disch := omega) [-getElem?_pos, a51]
  repeat' (first
    | (refine And.intro (by omega) ?_)
    | (refine Br.mk (fun hb => ?_) (fun hb => ?_) <;> simp -implicitDefEqProofs (maxSteps := 2000000) (disch := omega) [-getElem?_pos, hb]))
  all_goals exact .fin _ ⟨by refine congrArg (fun b => D.v (V.bool b)) ?_; rw [Bool.eq_iff_iff]; simp [lowB]; try omega, rfl⟩ (.refl _)
theorem k_Upper {c : UInt8} {σ : Sg} : ACalls Tryd.prog 56 [vB c] σ fun r σ' => r = .v (.bool (uppB c)) ∧ σ' = σ := by
  unfold vB
  refine acalls_fit Tryd.func56 (by kernel_rfl) c56 rfl (by simp [a56]) fun hf => ?_
  clear hf
  simp -implicitDefEqProofs (maxSteps := 2000000) (disch := omega) [-getElem?_pos, a56]
  repeat' (first
    | (refine And.intro (by omega) ?_)
    | (refine Br.mk (fun hb => ?_) (fun hb => ?_) <;> simp -implicitDefEqProofs (maxSteps := 2000000) (disch := omega) [-getElem?_pos, hb]))
  all_goals exact .fin _ ⟨by refine congrArg (fun b => D.v (V.bool b)) ?_; rw [Bool.eq_iff_iff]; simp [uppB]; try omega, rfl⟩ (.refl _)
theorem k_Digit {c : UInt8} {σ : Sg} : ACalls Tryd.prog 53 [vB c] σ fun r σ' => r = .v (.bool (digB c)) ∧ σ' = σ := by
  unfold vB
  refine acalls_fit Tryd.func53 (by kernel_rfl) c53 rfl (by simp [a53]) fun hf => ?_
  clear hf
  simp -implicitDefEqProofs (maxSteps := 2000000) (disch := omega) [-getElem?_pos, a53]
  repeat' (first
    | (refine And.intro (by omega) ?_)
    | (refine Br.mk (fun hb => ?_) (fun hb => ?_) <;> simp -implicitDefEqProofs (maxSteps := 2000000) (disch := omega) [-getElem?_pos, hb]))
  all_goals exact .fin _ ⟨by refine congrArg (fun b => D.v (V.bool b)) ?_; rw [Bool.eq_iff_iff]; simp [digB]; try omega, rfl⟩ (.refl _)
theorem k_Plain {c : UInt8} {σ : Sg} : ACalls Tryd.prog 43 [vB c] σ fun r σ' => r = .v (.bool (plaB c)) ∧ σ' = σ := by
  unfold vB
  refine acalls_fit Tryd.func43 (by kernel_rfl) c43 rfl (by simp [a43]) fun hf => ?_
  clear hf
  simp -implicitDefEqProofs (maxSteps := 2000000) (disch := omega) [-getElem?_pos, a43]
  repeat' (first
    | (refine And.intro (by omega) ?_)
    | (refine Br.mk (fun hb => ?_) (fun hb => ?_) <;> simp -implicitDefEqProofs (maxSteps := 2000000) (disch := omega) [-getElem?_pos, hb]))
  all_goals exact .fin _ ⟨by refine congrArg (fun b => D.v (V.bool b)) ?_; rw [Bool.eq_iff_iff]; simp [plaB]; try omega, rfl⟩ (.refl _)
theorem k_RLow {c : UInt8} {σ : Sg} : ACalls Tryd.prog 61 [vB c] σ fun r σ' => r = .v (.bool (lowB c)) ∧ σ' = σ := by
  unfold vB
  refine acalls_fit Tryd.func61 (by kernel_rfl) c61 rfl (by simp [a61]) fun hf => ?_
  clear hf
  simp -implicitDefEqProofs (maxSteps := 2000000) (disch := omega) [-getElem?_pos, a61]
  repeat' (first
    | (refine And.intro (by omega) ?_)
    | (refine Br.mk (fun hb => ?_) (fun hb => ?_) <;> simp -implicitDefEqProofs (maxSteps := 2000000) (disch := omega) [-getElem?_pos, hb]))
  all_goals exact .fin _ ⟨by refine congrArg (fun b => D.v (V.bool b)) ?_; rw [Bool.eq_iff_iff]; simp [lowB]; try omega, rfl⟩ (.refl _)
theorem k_RHigh {c : UInt8} {σ : Sg} : ACalls Tryd.prog 62 [vB c] σ fun r σ' => r = .v (.bool (uppB c)) ∧ σ' = σ := by
  unfold vB
  refine acalls_fit Tryd.func62 (by kernel_rfl) c62 rfl (by simp [a62]) fun hf => ?_
  clear hf
  simp -implicitDefEqProofs (maxSteps := 2000000) (disch := omega) [-getElem?_pos, a62]
  repeat' (first
    | (refine And.intro (by omega) ?_)
    | (refine Br.mk (fun hb => ?_) (fun hb => ?_) <;> simp -implicitDefEqProofs (maxSteps := 2000000) (disch := omega) [-getElem?_pos, hb]))
  all_goals exact .fin _ ⟨by refine congrArg (fun b => D.v (V.bool b)) ?_; rw [Bool.eq_iff_iff]; simp [uppB]; try omega, rfl⟩ (.refl _)
theorem k_RDigit {c : UInt8} {σ : Sg} : ACalls Tryd.prog 63 [vB c] σ fun r σ' => r = .v (.bool (digB c)) ∧ σ' = σ := by
  unfold vB
  refine acalls_fit Tryd.func63 (by kernel_rfl) c63 rfl (by simp [a63]) fun hf => ?_
  clear hf
  simp -implicitDefEqProofs (maxSteps := 2000000) (disch := omega) [-getElem?_pos, a63]
  repeat' (first
    | (refine And.intro (by omega) ?_)
    | (refine Br.mk (fun hb => ?_) (fun hb => ?_) <;> simp -implicitDefEqProofs (maxSteps := 2000000) (disch := omega) [-getElem?_pos, hb]))
  all_goals exact .fin _ ⟨by refine congrArg (fun b => D.v (V.bool b)) ?_; rw [Bool.eq_iff_iff]; simp [digB]; try omega, rfl⟩ (.refl _)
theorem k_Blank {c : UInt8} {σ : Sg} : ACalls Tryd.prog 39 [vB c] σ fun r σ' => r = .v (.bool (blaB c)) ∧ σ' = σ := by
  unfold vB
  refine acalls_fit Tryd.func39 (by kernel_rfl) c39 rfl (by simp [a39]) fun hf => ?_
  clear hf
  simp -implicitDefEqProofs (maxSteps := 2000000) (disch := omega) [-getElem?_pos, a39]
  repeat' (first
    | (refine And.intro (by omega) ?_)
    | (refine Br.mk (fun hb => ?_) (fun hb => ?_) <;> simp -implicitDefEqProofs (maxSteps := 2000000) (disch := omega) [-getElem?_pos, hb]))
  all_goals exact .fin _ ⟨by refine congrArg (fun b => D.v (V.bool b)) ?_; rw [Bool.eq_iff_iff]; simp [blaB]; try omega, rfl⟩ (.refl _)
theorem k_Next1 {c : UInt8} {σ : Sg} : ACalls Tryd.prog 52 [vB c] σ fun r σ' => r = .v (.bool (lowB c || digB c)) ∧ σ' = σ := by
  have c1 := fun σ => k_Lower (c := c) (σ := σ)
  have c2 := fun σ => k_Digit (c := c) (σ := σ)
  unfold vB at c1 c2 ⊢
  refine acalls_fit Tryd.func52 (by kernel_rfl) c52 rfl (by simp [a52]) fun hf => ?_
  clear hf
  simp -implicitDefEqProofs (maxSteps := 2000000) (disch := omega) [-getElem?_pos, a52]
  refine (c1 _).then fun r hr => ?_
  subst hr
  cases h1 : lowB c
  · simp -implicitDefEqProofs (maxSteps := 2000000) (disch := omega) [-getElem?_pos]
    refine (c2 _).then fun r hr => ?_
    subst hr
    simp -implicitDefEqProofs (maxSteps := 2000000) (disch := omega) [-getElem?_pos]
    exact .fin _ ⟨by simp, rfl⟩ (.refl _)
  · simp -implicitDefEqProofs (maxSteps := 2000000) (disch := omega) [-getElem?_pos]
    exact .fin _ ⟨by simp, rfl⟩ (.refl _)
theorem k_Next2 {c : UInt8} {σ : Sg} : ACalls Tryd.prog 57 [vB c] σ fun r σ' => r = .v (.bool (lowB c || (uppB c || digB c))) ∧ σ' = σ := by
  have c1 := fun σ => k_Lower (c := c) (σ := σ)
  have c2 := fun σ => k_Upper (c := c) (σ := σ)
  have c3 := fun σ => k_Digit (c := c) (σ := σ)
  unfold vB at c1 c2 c3 ⊢
  refine acalls_fit Tryd.func57 (by kernel_rfl) c57 rfl (by simp [a57]) fun hf => ?_
  clear hf
  simp -implicitDefEqProofs (maxSteps := 2000000) (disch := omega) [-getElem?_pos, a57]
  refine (c1 _).then fun r hr => ?_
  subst hr
  cases h1 : lowB c
  · simp -implicitDefEqProofs (maxSteps := 2000000) (disch := omega) [-getElem?_pos]
    refine (c2 _).then fun r hr => ?_
    subst hr
    cases h2 : uppB c
    · simp -implicitDefEqProofs (maxSteps := 2000000) (disch := omega) [-getElem?_pos]
      refine (c3 _).then fun r hr => ?_
      subst hr
      simp -implicitDefEqProofs (maxSteps := 2000000) (disch := omega) [-getElem?_pos]
      exact .fin _ ⟨by simp, rfl⟩ (.refl _)
    · simp -implicitDefEqProofs (maxSteps := 2000000) (disch := omega) [-getElem?_pos]
      exact .fin _ ⟨by simp, rfl⟩ (.refl _)
  · simp -implicitDefEqProofs (maxSteps := 2000000) (disch := omega) [-getElem?_pos]
    exact .fin _ ⟨by simp, rfl⟩ (.refl _)
end Go.Proofs.YtkfkifgfnlaceaaDoor
