/-
  Layer 9: the statements, walked. (Own work.)
-/
import Derived.Test.YtppdghfpbliaeaaB5
import Derived.Test.YtppdghfpbliaeaaAbsY
set_option linter.unusedVariables false
set_option linter.unusedSimpArgs false
namespace Go.Proofs.Ytppdghfpbliaeaa
open Go Go.Abs

theorem up1 : at0 [[97], [98], [100]] [99] = 2 := by decide
theorem up2 : isS ([] : List Str) = true := rfl
theorem up3 : isS [[98], [97]] = false := by decide
theorem up4 : (setS [[97], [97]]).length = 1 := by
  rw [set_of]
  decide
theorem up5 : sorted ([[97], [98], [100]] : List Str) := Asc.sorted (by unfold Asc; decide)

theorem k_Up {σ : Sg} : ACalls Try.prog 17 [] σ fun r σ' => r = .v (.bool true) ∧ σ' = σ := by
  refine acalls_fit Try.func17 (by kernel_rfl) c17 rfl (by simp [a17]) fun hf => ?_
  clear hf
  simp -implicitDefEqProofs (maxSteps := 2000000) (disch := omega) [-getElem?_pos, a17]
  refine (ACalls.args (ds := [.v (.sl none true (([[97], [98], [100]] : List Str).map .str)), .v (.str [99])]) (k_Offset (l := [[97], [98], [100]]) (s := [99]) up5 (by simp)) rfl fun i a b h1 h2 => ?_).then fun r hr => ?_
  · match i with
    | 0 => cases h1; cases h2; exact .lax
    | 1 => cases h1; cases h2; exact .refl _
    | n + 2 => simp at h1
  subst hr
  simp -implicitDefEqProofs (maxSteps := 2000000) (disch := omega) [-getElem?_pos, up1]
  refine ((k_Is (l := [])).arg1 .snil).then fun r hr => ?_
  subst hr
  simp -implicitDefEqProofs (maxSteps := 2000000) (disch := omega) [-getElem?_pos, up2]
  refine ((k_Is (l := [[98], [97]])).arg1 .lax).then fun r hr => ?_
  subst hr
  simp -implicitDefEqProofs (maxSteps := 2000000) (disch := omega) [-getElem?_pos, up3]
  refine (k_Of (l := [[97], [97]]) (f := true) (by simp)).then fun r hr => ?_
  subst hr
  simp -implicitDefEqProofs (maxSteps := 2000000) (disch := omega) [-getElem?_pos, up4]
  exact .fin _ ⟨rfl, rfl⟩ (.refl _)

theorem smallS_len {l : List Str} (h : smallS l = true) : l.length ≤ 200 := by
  unfold smallS at h
  simp at h
  omega

theorem k_LabelSets {a b : List Str} {s : Str} {σ : Sg} : ACalls Try.prog 5 [.v (vS a), .v (vS b), .v (.str s)] σ fun r σ' => r = .v (.bool true) := by
  refine acalls_fit Try.func5 (by kernel_rfl) c5 rfl (by simp [a5]) fun hf => ?_
  clear hf
  simp -implicitDefEqProofs (maxSteps := 2000000) (disch := omega) [-getElem?_pos, a5]
  refine k_Up.then fun r hr => ?_
  subst hr
  simp -implicitDefEqProofs (maxSteps := 2000000) (disch := omega) [-getElem?_pos]
  refine (k_Small (l := a)).then fun r hr => ?_
  subst hr
  cases ha : smallS a with
  | false =>
    simp -implicitDefEqProofs (maxSteps := 2000000) (disch := omega) [-getElem?_pos]
    exact .fin _ rfl (.refl _)
  | true =>
  simp -implicitDefEqProofs (maxSteps := 2000000) (disch := omega) [-getElem?_pos]
  refine (k_Small (l := b)).then fun r hr => ?_
  subst hr
  cases hb : smallS b with
  | false =>
    simp -implicitDefEqProofs (maxSteps := 2000000) (disch := omega) [-getElem?_pos]
    exact .fin _ rfl (.refl _)
  | true =>
  simp -implicitDefEqProofs (maxSteps := 2000000) (disch := omega) [-getElem?_pos]
  refine .mk (fun hs => ?_) fun hs => ?_
  · simp -implicitDefEqProofs (maxSteps := 2000000) (disch := omega) [-getElem?_pos]
    exact .fin _ rfl (.refl _)
  have hal := smallS_len ha
  have hbl := smallS_len hb
  simp -implicitDefEqProofs (maxSteps := 2000000) (disch := omega) [-getElem?_pos]
  refine (k_ROf (l := a) (by omega)).then fun r hr => ?_
  subst hr
  simp -implicitDefEqProofs (maxSteps := 2000000) (disch := omega) [-getElem?_pos]
  refine (k_ROf (l := b) (by omega)).then fun r hr => ?_
  subst hr
  obtain ⟨xa, xm⟩ := ofS_asc a
  obtain ⟨ya, ym⟩ := ofS_asc b
  have hxl := ofS_len a
  have hyl := ofS_len b
  have hsx := set_of a
  generalize ofS a = x at *
  generalize ofS b = y at *
  simp -implicitDefEqProofs (maxSteps := 2000000) (disch := omega) [-getElem?_pos]
  refine (k_Is (l := a)).then fun r hr => ?_
  subst hr
  simp -implicitDefEqProofs (maxSteps := 2000000) (disch := omega) [-getElem?_pos]
  refine (k_RIs (l := a)).then fun r hr => ?_
  subst hr
  generalize isS a = q
  simp -implicitDefEqProofs (maxSteps := 2000000) (disch := omega) [-getElem?_pos]
  refine (k_Of (l := a) (f := false) (by omega)).then fun r hr => ?_
  subst hr
  rw [hsx]
  simp -implicitDefEqProofs (maxSteps := 2000000) (disch := omega) [-getElem?_pos]
  refine (k_RTexts (a := x) (b := x)).then fun r hr => ?_
  subst hr
  simp -implicitDefEqProofs (maxSteps := 2000000) (disch := omega) [-getElem?_pos]
  refine (k_Has (l := x) (s := s) xa.sorted (by omega)).then fun r hr => ?_
  subst hr
  simp -implicitDefEqProofs (maxSteps := 2000000) (disch := omega) [-getElem?_pos]
  refine (k_RHas (l := x) (s := s)).then fun r hr => ?_
  subst hr
  have hh := xa.has s
  unfold hasS at hh
  rw [hh]
  simp -implicitDefEqProofs (maxSteps := 2000000) (disch := omega) [-getElem?_pos]
  refine (k_Offset (l := x) (s := s) xa.sorted (by omega)).then fun r hr => ?_
  subst hr
  simp -implicitDefEqProofs (maxSteps := 2000000) (disch := omega) [-getElem?_pos]
  refine (k_ROffset (l := x) (s := s)).then fun r hr => ?_
  subst hr
  rw [xa.offs_eq]
  simp -implicitDefEqProofs (maxSteps := 2000000) (disch := omega) [-getElem?_pos]
  refine (k_Join (a := x) (b := y) (by omega) (by omega)).then fun r hr => ?_
  subst hr
  simp -implicitDefEqProofs (maxSteps := 2000000) (disch := omega) [-getElem?_pos]
  refine (k_RJoin (a := x) (b := y) (by omega) (by omega)).then fun r hr => ?_
  subst hr
  rw [set_of]
  simp -implicitDefEqProofs (maxSteps := 2000000) (disch := omega) [-getElem?_pos]
  refine (k_RTexts (a := ofS (x ++ y)) (b := ofS (x ++ y))).then fun r hr => ?_
  subst hr
  simp -implicitDefEqProofs (maxSteps := 2000000) (disch := omega) [-getElem?_pos]
  refine (k_Less (a := x) (b := y) ya.sorted (by omega) (by omega)).then fun r hr => ?_
  subst hr
  simp -implicitDefEqProofs (maxSteps := 2000000) (disch := omega) [-getElem?_pos]
  refine (k_RLess (a := x) (b := y) (by omega)).then fun r hr => ?_
  subst hr
  have e1 : (x.filter fun s => !hasS y s) = x.filter fun s => !decide (s ∈ y) := by congr 1; funext s; rw [ya.has]
  rw [e1]
  simp -implicitDefEqProofs (maxSteps := 2000000) (disch := omega) [-getElem?_pos]
  refine (k_RTexts (a := x.filter fun s => !decide (s ∈ y)) (b := x.filter fun s => !decide (s ∈ y))).then fun r hr => ?_
  subst hr
  simp -implicitDefEqProofs (maxSteps := 2000000) (disch := omega) [-getElem?_pos]
  refine (k_Meet (a := x) (b := y) ya.sorted (by omega) (by omega)).then fun r hr => ?_
  subst hr
  simp -implicitDefEqProofs (maxSteps := 2000000) (disch := omega) [-getElem?_pos]
  refine (k_RMeet (a := x) (b := y) (by omega)).then fun r hr => ?_
  subst hr
  have e2 : (x.filter fun s => hasS y s) = x.filter fun s => decide (s ∈ y) := by congr 1; funext s; rw [ya.has]
  rw [e2]
  simp -implicitDefEqProofs (maxSteps := 2000000) (disch := omega) [-getElem?_pos]
  refine (k_RTexts (a := x.filter fun s => decide (s ∈ y)) (b := x.filter fun s => decide (s ∈ y))).then fun r hr => ?_
  subst hr
  simp -implicitDefEqProofs (maxSteps := 2000000) (disch := omega) [-getElem?_pos]
  exact .fin _ rfl (.refl _)
end Go.Proofs.Ytppdghfpbliaeaa
