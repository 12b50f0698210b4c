/-
  Layer 9: the offsets' law, walked. (Own work.)
-/
import Derived.Test.YtppdghfpbliaeaaB6
set_option linter.unusedVariables false
set_option linter.unusedSimpArgs false
namespace Go.Proofs.Ytppdghfpbliaeaa
open Go Go.Abs

theorem at0_le (l : List Str) (s : Str) : at0 l s ≤ l.length := (List.takeWhile_sublist _).length_le
theorem k_LabelOffsets {a b : List Str} {s : Str} {σ : Sg} : ACalls Try.prog 6 [.v (vS a), .v (vS b), .v (.str s)] σ fun r σ' => r = .v (.bool true) := by
  refine acalls_fit Try.func6 (by kernel_rfl) c6 rfl (by simp [a6]) fun hf => ?_
  clear hf
  simp -implicitDefEqProofs (maxSteps := 2000000) (disch := omega) [-getElem?_pos, a6]
  refine k_Up.then fun r hr => ?_
  subst hr
  simp -implicitDefEqProofs (maxSteps := 2000000) (disch := omega) [-getElem?_pos]
  refine (k_Small (l := a)).then fun r hr => ?_
  subst hr
  cases ha : smallS a with
  | false =>
    simp -implicitDefEqProofs (maxSteps := 2000000) (disch := omega) [-getElem?_pos]
    exact .fin _ rfl (.refl _)
  | true =>
  simp -implicitDefEqProofs (maxSteps := 2000000) (disch := omega) [-getElem?_pos]
  refine (k_Small (l := b)).then fun r hr => ?_
  subst hr
  cases hb : smallS b with
  | false =>
    simp -implicitDefEqProofs (maxSteps := 2000000) (disch := omega) [-getElem?_pos]
    exact .fin _ rfl (.refl _)
  | true =>
  simp -implicitDefEqProofs (maxSteps := 2000000) (disch := omega) [-getElem?_pos]
  refine .mk (fun hs => ?_) fun hs => ?_
  · simp -implicitDefEqProofs (maxSteps := 2000000) (disch := omega) [-getElem?_pos]
    exact .fin _ rfl (.refl _)
  have hal := smallS_len ha
  have hbl := smallS_len hb
  simp -implicitDefEqProofs (maxSteps := 2000000) (disch := omega) [-getElem?_pos]
  refine (k_Of (l := a) (f := false) (by omega)).then fun r hr => ?_
  subst hr
  simp -implicitDefEqProofs (maxSteps := 2000000) (disch := omega) [-getElem?_pos]
  refine (k_Of (l := b) (f := false) (by omega)).then fun r hr => ?_
  subst hr
  obtain ⟨xa, xm⟩ := setS_asc a
  obtain ⟨ya, ym⟩ := setS_asc b
  have hxl : (setS a).length ≤ a.length := by rw [set_of]; exact ofS_len a
  have hyl : (setS b).length ≤ b.length := by rw [set_of]; exact ofS_len b
  generalize setS a = x at *
  generalize setS b = y at *
  have hat := at0_le x s
  simp -implicitDefEqProofs (maxSteps := 2000000) (disch := omega) [-getElem?_pos]
  refine (k_Offset (l := x) (s := s) xa.sorted (by omega)).then fun r hr => ?_
  subst hr
  simp -implicitDefEqProofs (maxSteps := 2000000) (disch := omega) [-getElem?_pos]
  refine .mk (fun hq => by omega) fun hq => ?_
  simp -implicitDefEqProofs (maxSteps := 2000000) (disch := omega) [-getElem?_pos]
  refine (k_Has (l := x) (s := s) xa.sorted (by omega)).then fun r hr => ?_
  subst hr
  simp -implicitDefEqProofs (maxSteps := 2000000) (disch := omega) [-getElem?_pos]
  refine .mk (fun hm => ?_) fun hm => ?_
  · have hlt := (List.getElem?_eq_some_iff.1 hm).1
    simp -implicitDefEqProofs (maxSteps := 2000000) (disch := omega) [-getElem?_pos]
    refine .mk (fun hq => by omega) fun hq => ?_
    simp -implicitDefEqProofs (maxSteps := 2000000) (disch := omega) [-getElem?_pos]
    refine ⟨by omega, fun v hv => ?_⟩
    rw [hm] at hv
    cases hv
    refine .mk (fun hq => ?_) fun hq => absurd rfl hq
    simp -implicitDefEqProofs (maxSteps := 2000000) (disch := omega) [-getElem?_pos]
    refine (k_Join (a := x) (b := y) (by omega) (by omega)).then fun r hr => ?_
    subst hr
    have jl := join_len xa ya
    have pl := parts_len x y
    have hjs := setS_asc (x ++ y)
    have hji := hjs.1.isS
    have hjl : (setS (x ++ y)).length ≤ x.length + y.length := by rw [set_of]; simpa using ofS_len (x ++ y)
    have hjm := hjs.2
    generalize setS (x ++ y) = z at *
    simp -implicitDefEqProofs (maxSteps := 2000000) (disch := omega) [-getElem?_pos]
    refine (k_Is (l := z)).then fun r hr => ?_
    subst hr
    rw [hji]
    simp -implicitDefEqProofs (maxSteps := 2000000) (disch := omega) [-getElem?_pos]
    refine (k_Has (l := z) (s := s) hjs.1.sorted (by omega)).then fun r hr => ?_
    subst hr
    simp -implicitDefEqProofs (maxSteps := 2000000) (disch := omega) [-getElem?_pos]
    refine (k_Has (l := x) (s := s) xa.sorted (by omega)).then fun r hr => ?_
    subst hr
    have e3 : decide (z[at0 z s]? = some s) = (decide (s ∈ x) || decide (s ∈ y)) := by
      have := hjs.1.has s
      unfold hasS at this
      rw [this]
      simp [hjm]
    have e4 : decide (x[at0 x s]? = some s) = decide (s ∈ x) := xa.has s
    rw [e3, e4]
    have e5 : decide (y[at0 y s]? = some s) = decide (s ∈ y) := ya.has s
    have hz1 : (z.length : Int) = x.length + (y.filter fun s => !hasS x s).length := by omega
    have hz2 : (x.length : Int) = (x.filter fun s => !hasS y s).length + (x.filter fun s => hasS y s).length := by omega
    have l1 : (y.filter fun s => !hasS x s).length ≤ y.length := List.length_filter_le _ _
    have l2 : (x.filter fun s => !hasS y s).length ≤ x.length := List.length_filter_le _ _
    have l3 : (x.filter fun s => hasS y s).length ≤ x.length := List.length_filter_le _ _
    cases p1 : decide (s ∈ x) with
    | true =>
      simp only [p1, Bool.true_or]
      simp -implicitDefEqProofs (maxSteps := 2000000) (disch := omega) [-getElem?_pos]
      refine (k_Less (a := y) (b := x) xa.sorted (by omega) (by omega)).then fun r hr => ?_
      subst hr
      simp -implicitDefEqProofs (maxSteps := 2000000) (disch := omega) [-getElem?_pos]
      rw [hz1]
      simp -implicitDefEqProofs (maxSteps := 2000000) (disch := omega) [-getElem?_pos]
      refine (k_Less (a := x) (b := y) ya.sorted (by omega) (by omega)).then fun r hr => ?_
      subst hr
      simp -implicitDefEqProofs (maxSteps := 2000000) (disch := omega) [-getElem?_pos]
      refine (k_Meet (a := x) (b := y) ya.sorted (by omega) (by omega)).then fun r hr => ?_
      subst hr
      simp -implicitDefEqProofs (maxSteps := 2000000) (disch := omega) [-getElem?_pos]
      rw [hz2]
      simp -implicitDefEqProofs (maxSteps := 2000000) (disch := omega) [-getElem?_pos]
      exact .fin _ rfl (.refl _)

    | false =>
      simp only [p1, Bool.false_or]
      simp -implicitDefEqProofs (maxSteps := 2000000) (disch := omega) [-getElem?_pos]
      refine (k_Has (l := y) (s := s) ya.sorted (by omega)).then fun r hr => ?_
      subst hr
      rw [e5]
      generalize decide (s ∈ y) = p2
      simp -implicitDefEqProofs (maxSteps := 2000000) (disch := omega) [-getElem?_pos]
      refine (k_Less (a := y) (b := x) xa.sorted (by omega) (by omega)).then fun r hr => ?_
      subst hr
      simp -implicitDefEqProofs (maxSteps := 2000000) (disch := omega) [-getElem?_pos]
      rw [hz1]
      simp -implicitDefEqProofs (maxSteps := 2000000) (disch := omega) [-getElem?_pos]
      refine (k_Less (a := x) (b := y) ya.sorted (by omega) (by omega)).then fun r hr => ?_
      subst hr
      simp -implicitDefEqProofs (maxSteps := 2000000) (disch := omega) [-getElem?_pos]
      refine (k_Meet (a := x) (b := y) ya.sorted (by omega) (by omega)).then fun r hr => ?_
      subst hr
      simp -implicitDefEqProofs (maxSteps := 2000000) (disch := omega) [-getElem?_pos]
      rw [hz2]
      simp -implicitDefEqProofs (maxSteps := 2000000) (disch := omega) [-getElem?_pos]
      exact .fin _ rfl (.refl _)


  · have hnm : s ∉ x := by
      have := xa.has s
      unfold hasS at this
      simpa [hm] using this
    simp -implicitDefEqProofs (maxSteps := 2000000) (disch := omega) [-getElem?_pos]
    repeat refine ⟨by omega, ?_⟩
    refine (k_Is (l := x.take (at0 x s) ++ (s :: x.drop (at0 x s)))).arg1 ?_ |>.then fun r hr => ?_
    · simp only [vS, List.map_append, List.map_cons, List.map_take, List.map_drop]
      exact .tsl
    subst hr
    rw [(xa.insert hnm).isS]
    simp -implicitDefEqProofs (maxSteps := 2000000) (disch := omega) [-getElem?_pos]
    refine (k_Join (a := x) (b := y) (by omega) (by omega)).then fun r hr => ?_
    subst hr
    have jl := join_len xa ya
    have pl := parts_len x y
    have hjs := setS_asc (x ++ y)
    have hji := hjs.1.isS
    have hjl : (setS (x ++ y)).length ≤ x.length + y.length := by rw [set_of]; simpa using ofS_len (x ++ y)
    have hjm := hjs.2
    generalize setS (x ++ y) = z at *
    simp -implicitDefEqProofs (maxSteps := 2000000) (disch := omega) [-getElem?_pos]
    refine (k_Is (l := z)).then fun r hr => ?_
    subst hr
    rw [hji]
    simp -implicitDefEqProofs (maxSteps := 2000000) (disch := omega) [-getElem?_pos]
    refine (k_Has (l := z) (s := s) hjs.1.sorted (by omega)).then fun r hr => ?_
    subst hr
    simp -implicitDefEqProofs (maxSteps := 2000000) (disch := omega) [-getElem?_pos]
    refine (k_Has (l := x) (s := s) xa.sorted (by omega)).then fun r hr => ?_
    subst hr
    have e3 : decide (z[at0 z s]? = some s) = (decide (s ∈ x) || decide (s ∈ y)) := by
      have := hjs.1.has s
      unfold hasS at this
      rw [this]
      simp [hjm]
    have e4 : decide (x[at0 x s]? = some s) = decide (s ∈ x) := xa.has s
    rw [e3, e4]
    have e5 : decide (y[at0 y s]? = some s) = decide (s ∈ y) := ya.has s
    have hz1 : (z.length : Int) = x.length + (y.filter fun s => !hasS x s).length := by omega
    have hz2 : (x.length : Int) = (x.filter fun s => !hasS y s).length + (x.filter fun s => hasS y s).length := by omega
    have l1 : (y.filter fun s => !hasS x s).length ≤ y.length := List.length_filter_le _ _
    have l2 : (x.filter fun s => !hasS y s).length ≤ x.length := List.length_filter_le _ _
    have l3 : (x.filter fun s => hasS y s).length ≤ x.length := List.length_filter_le _ _
    cases p1 : decide (s ∈ x) with
    | true =>
      simp only [p1, Bool.true_or]
      simp -implicitDefEqProofs (maxSteps := 2000000) (disch := omega) [-getElem?_pos]
      refine (k_Less (a := y) (b := x) xa.sorted (by omega) (by omega)).then fun r hr => ?_
      subst hr
      simp -implicitDefEqProofs (maxSteps := 2000000) (disch := omega) [-getElem?_pos]
      rw [hz1]
      simp -implicitDefEqProofs (maxSteps := 2000000) (disch := omega) [-getElem?_pos]
      refine (k_Less (a := x) (b := y) ya.sorted (by omega) (by omega)).then fun r hr => ?_
      subst hr
      simp -implicitDefEqProofs (maxSteps := 2000000) (disch := omega) [-getElem?_pos]
      refine (k_Meet (a := x) (b := y) ya.sorted (by omega) (by omega)).then fun r hr => ?_
      subst hr
      simp -implicitDefEqProofs (maxSteps := 2000000) (disch := omega) [-getElem?_pos]
      rw [hz2]
      simp -implicitDefEqProofs (maxSteps := 2000000) (disch := omega) [-getElem?_pos]
      exact .fin _ rfl (.refl _)

    | false =>
      simp only [p1, Bool.false_or]
      simp -implicitDefEqProofs (maxSteps := 2000000) (disch := omega) [-getElem?_pos]
      refine (k_Has (l := y) (s := s) ya.sorted (by omega)).then fun r hr => ?_
      subst hr
      rw [e5]
      generalize decide (s ∈ y) = p2
      simp -implicitDefEqProofs (maxSteps := 2000000) (disch := omega) [-getElem?_pos]
      refine (k_Less (a := y) (b := x) xa.sorted (by omega) (by omega)).then fun r hr => ?_
      subst hr
      simp -implicitDefEqProofs (maxSteps := 2000000) (disch := omega) [-getElem?_pos]
      rw [hz1]
      simp -implicitDefEqProofs (maxSteps := 2000000) (disch := omega) [-getElem?_pos]
      refine (k_Less (a := x) (b := y) ya.sorted (by omega) (by omega)).then fun r hr => ?_
      subst hr
      simp -implicitDefEqProofs (maxSteps := 2000000) (disch := omega) [-getElem?_pos]
      refine (k_Meet (a := x) (b := y) ya.sorted (by omega) (by omega)).then fun r hr => ?_
      subst hr
      simp -implicitDefEqProofs (maxSteps := 2000000) (disch := omega) [-getElem?_pos]
      rw [hz2]
      simp -implicitDefEqProofs (maxSteps := 2000000) (disch := omega) [-getElem?_pos]
      exact .fin _ rfl (.refl _)


end Go.Proofs.Ytppdghfpbliaeaa
