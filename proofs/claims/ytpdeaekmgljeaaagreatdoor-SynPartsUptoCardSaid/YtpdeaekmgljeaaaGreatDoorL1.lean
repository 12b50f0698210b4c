/-
  Lexer: what bytes are. (Own work.)
-/
import Derived.Test.YtpdeaekmgljeaaaGreatDoorAbsZ
import Derived.Test.YtpdeaekmgljeaaaGreatDoorF1
set_option linter.unusedVariables false
set_option linter.unusedSimpArgs false
namespace Go.Proofs.YtpdeaekmgljeaaaGreatDoor
open Go Go.Abs

def lowB (c : UInt8) : Bool := decide (97 ≤ c.toNat) && decide (c.toNat ≤ 122)
def uppB (c : UInt8) : Bool := decide (65 ≤ c.toNat) && decide (c.toNat ≤ 90)
def digB (c : UInt8) : Bool := decide (48 ≤ c.toNat) && decide (c.toNat ≤ 57)
def plaB (c : UInt8) : Bool := decide (32 ≤ c.toNat) && decide (c.toNat ≤ 126)
def blaB (c : UInt8) : Bool := decide (c.toNat = 32) || (decide (c.toNat = 10) || decide (c.toNat = 9))
def vB (c : UInt8) : D := .v (.int .u8 c.toNat)
theorem k_Lower {c : UInt8} {σ : Sg} : ACalls Tryz.prog 115 [vB c] σ fun r σ' => r = .v (.bool (lowB c)) ∧ σ' = σ := by
  unfold vB
  refine acalls_fit Tryz.func115 (by kernel_rfl) c115 rfl (by simp [a115]) fun hf => ?_
  clear hf
  simp -implicitDefEqProofs (maxSteps := 2000000) (disch := omega) [-getElem?_pos, a115]
  repeat' (first
    | (refine And.intro (by omega) ?_)
    | (refine Br.mk (fun hb => ?_) (fun hb => ?_) <;> simp -implicitDefEqProofs (maxSteps := 2000000) (disch := omega) [-getElem?_pos, hb]))
  all_goals exact .fin _ ⟨by refine congrArg (fun b => D.v (V.bool b)) ?_; rw [Bool.eq_iff_iff]; simp [lowB]; try omega, rfl⟩ (.refl _)
theorem k_Upper {c : UInt8} {σ : Sg} : ACalls Tryz.prog 120 [vB c] σ fun r σ' => r = .v (.bool (uppB c)) ∧ σ' = σ := by
  unfold vB
  refine acalls_fit Tryz.func120 (by kernel_rfl) c120 rfl (by simp [a120]) fun hf => ?_
  clear hf
  simp -implicitDefEqProofs (maxSteps := 2000000) (disch := omega) [-getElem?_pos, a120]
  repeat' (first
    | (refine And.intro (by omega) ?_)
    | (refine Br.mk (fun hb => ?_) (fun hb => ?_) <;> simp -implicitDefEqProofs (maxSteps := 2000000) (disch := omega) [-getElem?_pos, hb]))
  all_goals exact .fin _ ⟨by refine congrArg (fun b => D.v (V.bool b)) ?_; rw [Bool.eq_iff_iff]; simp [uppB]; try omega, rfl⟩ (.refl _)
theorem k_Digit {c : UInt8} {σ : Sg} : ACalls Tryz.prog 117 [vB c] σ fun r σ' => r = .v (.bool (digB c)) ∧ σ' = σ := by
  unfold vB
  refine acalls_fit Tryz.func117 (by kernel_rfl) c117 rfl (by simp [a117]) fun hf => ?_
  clear hf
  simp -implicitDefEqProofs (maxSteps := 2000000) (disch := omega) [-getElem?_pos, a117]
  repeat' (first
    | (refine And.intro (by omega) ?_)
    | (refine Br.mk (fun hb => ?_) (fun hb => ?_) <;> simp -implicitDefEqProofs (maxSteps := 2000000) (disch := omega) [-getElem?_pos, hb]))
  all_goals exact .fin _ ⟨by refine congrArg (fun b => D.v (V.bool b)) ?_; rw [Bool.eq_iff_iff]; simp [digB]; try omega, rfl⟩ (.refl _)
theorem k_Plain {c : UInt8} {σ : Sg} : ACalls Tryz.prog 89 [vB c] σ fun r σ' => r = .v (.bool (plaB c)) ∧ σ' = σ := by
  unfold vB
  refine acalls_fit Tryz.func89 (by kernel_rfl) c89 rfl (by simp [a89]) fun hf => ?_
  clear hf
  simp -implicitDefEqProofs (maxSteps := 2000000) (disch := omega) [-getElem?_pos, a89]
  repeat' (first
    | (refine And.intro (by omega) ?_)
    | (refine Br.mk (fun hb => ?_) (fun hb => ?_) <;> simp -implicitDefEqProofs (maxSteps := 2000000) (disch := omega) [-getElem?_pos, hb]))
  all_goals exact .fin _ ⟨by refine congrArg (fun b => D.v (V.bool b)) ?_; rw [Bool.eq_iff_iff]; simp [plaB]; try omega, rfl⟩ (.refl _)
theorem k_RLow {c : UInt8} {σ : Sg} : ACalls Tryz.prog 169 [vB c] σ fun r σ' => r = .v (.bool (lowB c)) ∧ σ' = σ := by
  unfold vB
  refine acalls_fit Tryz.func169 (by kernel_rfl) c169 rfl (by simp [a169]) fun hf => ?_
  clear hf
  simp -implicitDefEqProofs (maxSteps := 2000000) (disch := omega) [-getElem?_pos, a169]
  repeat' (first
    | (refine And.intro (by omega) ?_)
    | (refine Br.mk (fun hb => ?_) (fun hb => ?_) <;> simp -implicitDefEqProofs (maxSteps := 2000000) (disch := omega) [-getElem?_pos, hb]))
  all_goals exact .fin _ ⟨by refine congrArg (fun b => D.v (V.bool b)) ?_; rw [Bool.eq_iff_iff]; simp [lowB]; try omega, rfl⟩ (.refl _)
theorem k_RHigh {c : UInt8} {σ : Sg} : ACalls Tryz.prog 170 [vB c] σ fun r σ' => r = .v (.bool (uppB c)) ∧ σ' = σ := by
  unfold vB
  refine acalls_fit Tryz.func170 (by kernel_rfl) c170 rfl (by simp [a170]) fun hf => ?_
  clear hf
  simp -implicitDefEqProofs (maxSteps := 2000000) (disch := omega) [-getElem?_pos, a170]
  repeat' (first
    | (refine And.intro (by omega) ?_)
    | (refine Br.mk (fun hb => ?_) (fun hb => ?_) <;> simp -implicitDefEqProofs (maxSteps := 2000000) (disch := omega) [-getElem?_pos, hb]))
  all_goals exact .fin _ ⟨by refine congrArg (fun b => D.v (V.bool b)) ?_; rw [Bool.eq_iff_iff]; simp [uppB]; try omega, rfl⟩ (.refl _)
theorem k_RDigit {c : UInt8} {σ : Sg} : ACalls Tryz.prog 171 [vB c] σ fun r σ' => r = .v (.bool (digB c)) ∧ σ' = σ := by
  unfold vB
  refine acalls_fit Tryz.func171 (by kernel_rfl) c171 rfl (by simp [a171]) fun hf => ?_
  clear hf
  simp -implicitDefEqProofs (maxSteps := 2000000) (disch := omega) [-getElem?_pos, a171]
  repeat' (first
    | (refine And.intro (by omega) ?_)
    | (refine Br.mk (fun hb => ?_) (fun hb => ?_) <;> simp -implicitDefEqProofs (maxSteps := 2000000) (disch := omega) [-getElem?_pos, hb]))
  all_goals exact .fin _ ⟨by refine congrArg (fun b => D.v (V.bool b)) ?_; rw [Bool.eq_iff_iff]; simp [digB]; try omega, rfl⟩ (.refl _)
theorem k_Blank {c : UInt8} {σ : Sg} : ACalls Tryz.prog 81 [vB c] σ fun r σ' => r = .v (.bool (blaB c)) ∧ σ' = σ := by
  unfold vB
  refine acalls_fit Tryz.func81 (by kernel_rfl) c81 rfl (by simp [a81]) fun hf => ?_
  clear hf
  simp -implicitDefEqProofs (maxSteps := 2000000) (disch := omega) [-getElem?_pos, a81]
  repeat' (first
    | (refine And.intro (by omega) ?_)
    | (refine Br.mk (fun hb => ?_) (fun hb => ?_) <;> simp -implicitDefEqProofs (maxSteps := 2000000) (disch := omega) [-getElem?_pos, hb]))
  all_goals exact .fin _ ⟨by refine congrArg (fun b => D.v (V.bool b)) ?_; rw [Bool.eq_iff_iff]; simp [blaB]; try omega, rfl⟩ (.refl _)
theorem k_Next1 {c : UInt8} {σ : Sg} : ACalls Tryz.prog 116 [vB c] σ fun r σ' => r = .v (.bool (lowB c || digB c)) ∧ σ' = σ := by
  have c1 := fun σ => k_Lower (c := c) (σ := σ)
  have c2 := fun σ => k_Digit (c := c) (σ := σ)
  unfold vB at c1 c2 ⊢
  refine acalls_fit Tryz.func116 (by kernel_rfl) c116 rfl (by simp [a116]) fun hf => ?_
  clear hf
  simp -implicitDefEqProofs (maxSteps := 2000000) (disch := omega) [-getElem?_pos, a116]
  refine (c1 _).then fun r hr => ?_
  subst hr
  cases h1 : lowB c
  · simp -implicitDefEqProofs (maxSteps := 2000000) (disch := omega) [-getElem?_pos]
    refine (c2 _).then fun r hr => ?_
    subst hr
    simp -implicitDefEqProofs (maxSteps := 2000000) (disch := omega) [-getElem?_pos]
    exact .fin _ ⟨by simp, rfl⟩ (.refl _)
  · simp -implicitDefEqProofs (maxSteps := 2000000) (disch := omega) [-getElem?_pos]
    exact .fin _ ⟨by simp, rfl⟩ (.refl _)
theorem k_Next2 {c : UInt8} {σ : Sg} : ACalls Tryz.prog 121 [vB c] σ fun r σ' => r = .v (.bool (lowB c || (uppB c || digB c))) ∧ σ' = σ := by
  have c1 := fun σ => k_Lower (c := c) (σ := σ)
  have c2 := fun σ => k_Upper (c := c) (σ := σ)
  have c3 := fun σ => k_Digit (c := c) (σ := σ)
  unfold vB at c1 c2 c3 ⊢
  refine acalls_fit Tryz.func121 (by kernel_rfl) c121 rfl (by simp [a121]) fun hf => ?_
  clear hf
  simp -implicitDefEqProofs (maxSteps := 2000000) (disch := omega) [-getElem?_pos, a121]
  refine (c1 _).then fun r hr => ?_
  subst hr
  cases h1 : lowB c
  · simp -implicitDefEqProofs (maxSteps := 2000000) (disch := omega) [-getElem?_pos]
    refine (c2 _).then fun r hr => ?_
    subst hr
    cases h2 : uppB c
    · simp -implicitDefEqProofs (maxSteps := 2000000) (disch := omega) [-getElem?_pos]
      refine (c3 _).then fun r hr => ?_
      subst hr
      simp -implicitDefEqProofs (maxSteps := 2000000) (disch := omega) [-getElem?_pos]
      exact .fin _ ⟨by simp, rfl⟩ (.refl _)
    · simp -implicitDefEqProofs (maxSteps := 2000000) (disch := omega) [-getElem?_pos]
      exact .fin _ ⟨by simp, rfl⟩ (.refl _)
  · simp -implicitDefEqProofs (maxSteps := 2000000) (disch := omega) [-getElem?_pos]
    exact .fin _ ⟨by simp, rfl⟩ (.refl _)
end Go.Proofs.YtpdeaekmgljeaaaGreatDoor
