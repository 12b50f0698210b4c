/-
  Layer 14: with more fuel, if it ended, it ends the same; if it didn't, the trace goes on: the law walked. (Own work.)
-/
import Derived.Test.YtbifjffjibnjjaaDoorK19
set_option linter.unusedVariables false
set_option linter.unusedSimpArgs false
set_option maxHeartbeats 2000000
namespace Go.Proofs.YtbifjffjibnjjaaDoor
open Go Go.Abs

/-- Of two runs, as the law looks at them. -/
theorem more (e : Co) (inp : List Str) (F M : Nat) : Gd M (runM e inp F) (runM e inp (F + M)) (ms0 inp F) :=
  ev_more M (F + 1) (F + M + 1) e .nil (ms0 inp F) rfl (by simp [ms0]) (by simp [ms0])
theorem valV_cells (φ : Nat → Nat) (o : Option Vl) : ∃ x0 x1 x2 x3 x4 x5, valV φ o = .agg [x0, x1, x2, x3, x4, x5] := by
  cases o with
  | none => exact ⟨_, _, _, _, _, _, rfl⟩
  | some v =>
    obtain ⟨d0, d1, d2, d3, d4, d5, hcv⟩ := list6 (celW_len (φ := φ) v)
    exact ⟨d0, d1, d2, d3, d4, d5, by simp only [valV, encW, hcv]⟩
theorem k_CoreMore {e : Co} {inp : List Str} {fuel mr : Int} {σ : Sg} (hc : csz e ≤ 1048576) (hi : inp.length ≤ 4000000) : ACalls Tryd.prog 3 [.v (encC e), .v (vS inp), .v (.int .i64 fuel), .v (.int .i64 mr)] σ fun r σ' => r = .v (.bool true) := by
  have f1 := fun σ => k_Few (e := e) (σ := σ) hc
  have f2 := fun σ => k_Lines (σ := σ) hi
  obtain ⟨z0, z1, z2, z3, z4, z5, hco⟩ := list6 (show (coV e).length = 6 by cases e; rfl)
  have hec : encC e = .agg [z0, z1, z2, z3, z4, z5] := by rw [encC_coV, hco]
  have kr := fun (n : Nat) (σ : Sg) (hn : n ≤ 40000) (hf : (encC e).fits) => k_Run (e := e) (inp := inp) (fuel := n) (σ := σ) ⟨hc, hf⟩ hn
  rw [hec] at f1 kr ⊢
  refine acalls_fit Tryd.func3 (by kernel_rfl) c3 rfl (by simp [a3]) fun hf => ?_
  have hfit := hf.1
  clear hf
  simp -implicitDefEqProofs (maxSteps := 2000000) (disch := omega) [-getElem?_pos, a3]
  refine k_Up14.then fun r hr => ?_
  subst hr
  simp -implicitDefEqProofs (maxSteps := 2000000) (disch := omega) [-getElem?_pos]
  refine (f1 _).then fun r hr => ?_
  obtain ⟨q1, rfl⟩ := hr
  simp -implicitDefEqProofs (maxSteps := 2000000) (disch := omega) [-getElem?_pos]
  refine (f2 _).then fun r hr => ?_
  obtain ⟨q2, rfl⟩ := hr
  cases q1 with
  | false =>
    simp -implicitDefEqProofs (maxSteps := 2000000) (disch := omega) [-getElem?_pos]
    exact .fin _ rfl (.refl _)
  | true =>
  cases q2 with
  | false =>
    simp -implicitDefEqProofs (maxSteps := 2000000) (disch := omega) [-getElem?_pos]
    exact .fin _ rfl (.refl _)
  | true =>
  simp -implicitDefEqProofs (maxSteps := 2000000) (disch := omega) [-getElem?_pos]
  refine .mk (fun g1 => ?_) fun g1 => ?_
  rotate_left
  · simp -implicitDefEqProofs (maxSteps := 2000000) (disch := omega) [-getElem?_pos]
    exact .fin _ rfl (.refl _)
  simp -implicitDefEqProofs (maxSteps := 2000000) (disch := omega) [-getElem?_pos]
  refine .mk (fun g2 => ?_) fun g2 => ?_
  rotate_left
  · simp -implicitDefEqProofs (maxSteps := 2000000) (disch := omega) [-getElem?_pos]
    exact .fin _ rfl (.refl _)
  simp -implicitDefEqProofs (maxSteps := 2000000) (disch := omega) [-getElem?_pos]
  refine .mk (fun g3 => ?_) fun g3 => ?_
  rotate_left
  · simp -implicitDefEqProofs (maxSteps := 2000000) (disch := omega) [-getElem?_pos]
    exact .fin _ rfl (.refl _)
  simp -implicitDefEqProofs (maxSteps := 2000000) (disch := omega) [-getElem?_pos]
  refine .mk (fun g4 => ?_) fun g4 => ?_
  · simp -implicitDefEqProofs (maxSteps := 2000000) (disch := omega) [-getElem?_pos]
    exact .fin _ rfl (.refl _)
  obtain ⟨F, rfl⟩ : ∃ F : Nat, fuel = F := ⟨fuel.toNat, by omega⟩
  obtain ⟨M, rfl⟩ : ∃ M : Nat, mr = M := ⟨mr.toNat, by omega⟩
  have hgd := more e inp F M
  have r1 := fun σ => kr F σ (by omega) hfit
  have r2 := fun σ => kr (F + M) σ (by omega) hfit
  generalize runM e inp F = rs1 at hgd r1
  generalize runM e inp (F + M) = rs2 at hgd r2
  obtain ⟨v1, m1⟩ := rs1
  obtain ⟨v2, m2⟩ := rs2
  have ge := hgd.err
  have gc := hgd.c
  have gt := hgd.dd
  dsimp only at ge gc gt
  clear hgd
  by_cases h8 : m1.err = 8
  · have hv1 : v1 = none := ge.2 (by rw [h8]; decide)
    subst hv1
    have hpre := begB_of (gt h8)
    simp -implicitDefEqProofs (maxSteps := 2000000) (disch := omega) [-getElem?_pos]
    refine (r1 _).then fun r hr => ?_
    obtain ⟨φ1, rfl⟩ := hr
    unfold runD valV zW
    have ho1 : outV m1 = .agg [.int .i64 m1.err, .int .i64 m1.fault, .str [], .sl none false (m1.tr.map .str)] := rfl
    have ho2 : outV m2 = .agg [.int .i64 m2.err, .int .i64 m2.fault, .str [], .sl none false (m2.tr.map .str)] := rfl
    rw [ho1]
    simp -implicitDefEqProofs (maxSteps := 2000000) (disch := omega) [-getElem?_pos]
    refine (r2 _).then fun r hr => ?_
    obtain ⟨φ2, rfl⟩ := hr
    obtain ⟨x0, x1, x2, x3, x4, x5, hx⟩ := valV_cells φ2 v2
    unfold runD
    dsimp only
    rw [hx, ho2]
    simp -implicitDefEqProofs (maxSteps := 2000000) (disch := omega) [-getElem?_pos, h8]
    refine k_Begins.then fun r hr => ?_
    subst hr
    rw [hpre]
    simp -implicitDefEqProofs (maxSteps := 2000000) (disch := omega) [-getElem?_pos]
    exact .fin _ rfl (.refl _)
  · have h2 := gc h8
    injection h2 with hv hm
    subst hv
    subst hm
    have hpre : outsB m1 (m1.up M) = true := by simp [outsB, Ms.up]
    have ho1 : outV m1 = .agg [.int .i64 m1.err, .int .i64 m1.fault, .str [], .sl none false (m1.tr.map .str)] := rfl
    have ho2 : outV (m1.up M) = .agg [.int .i64 m1.err, .int .i64 m1.fault, .str [], .sl none false (m1.tr.map .str)] := rfl
    have kO := fun σ => k_Outs (m := m1) (m' := m1.up M) (σ := σ)
    rw [hpre, ho1, ho2] at kO
    cases v2 with
    | none =>
      have h0 : ¬ m1.err = 0 := ge.1 rfl
      have hb : (m1.err == 0) = false := by simp [h0]
      simp -implicitDefEqProofs (maxSteps := 2000000) (disch := omega) [-getElem?_pos]
      refine (r1 _).then fun r hr => ?_
      obtain ⟨φ1, rfl⟩ := hr
      simp only [runD, valV, zW, encW, celW, encWs_eq]
      rw [ho1]
      simp -implicitDefEqProofs (maxSteps := 2000000) (disch := omega) [-getElem?_pos]
      refine (r2 _).then fun r hr => ?_
      obtain ⟨φ2, rfl⟩ := hr
      simp only [runD, valV, zW, encW, celW, encWs_eq]
      rw [ho2]
      simp -implicitDefEqProofs (maxSteps := 2000000) (disch := omega) [-getElem?_pos, h8]
      refine (kO _).then fun r hr => ?_
      subst hr
      simp -implicitDefEqProofs (maxSteps := 2000000) (disch := omega) [-getElem?_pos, h0, hb]
      exact .fin _ rfl (.refl _)

    | some v =>
      have h0 : m1.err = 0 := by
        by_cases h : m1.err = 0
        · exact h
        · exact absurd (ge.2 h) (by simp)
      have hb : (m1.err == 0) = true := by simp [h0]
      cases v with
      | int n =>
        simp -implicitDefEqProofs (maxSteps := 2000000) (disch := omega) [-getElem?_pos]
        refine (r1 _).then fun r hr => ?_
        obtain ⟨φ1, rfl⟩ := hr
        simp only [runD, valV, zW, encW, celW, encWs_eq]
        rw [ho1]
        simp -implicitDefEqProofs (maxSteps := 2000000) (disch := omega) [-getElem?_pos]
        refine (r2 _).then fun r hr => ?_
        obtain ⟨φ2, rfl⟩ := hr
        simp only [runD, valV, zW, encW, celW, encWs_eq]
        rw [ho2]
        simp -implicitDefEqProofs (maxSteps := 2000000) (disch := omega) [-getElem?_pos, h8]
        refine (kO _).then fun r hr => ?_
        subst hr
        simp -implicitDefEqProofs (maxSteps := 2000000) (disch := omega) [-getElem?_pos, h0, hb]
        exact .fin _ rfl (.refl _)

      | text n =>
        simp -implicitDefEqProofs (maxSteps := 2000000) (disch := omega) [-getElem?_pos]
        refine (r1 _).then fun r hr => ?_
        obtain ⟨φ1, rfl⟩ := hr
        simp only [runD, valV, zW, encW, celW, encWs_eq]
        rw [ho1]
        simp -implicitDefEqProofs (maxSteps := 2000000) (disch := omega) [-getElem?_pos]
        refine (r2 _).then fun r hr => ?_
        obtain ⟨φ2, rfl⟩ := hr
        simp only [runD, valV, zW, encW, celW, encWs_eq]
        rw [ho2]
        simp -implicitDefEqProofs (maxSteps := 2000000) (disch := omega) [-getElem?_pos, h8]
        refine (kO _).then fun r hr => ?_
        subst hr
        simp -implicitDefEqProofs (maxSteps := 2000000) (disch := omega) [-getElem?_pos, h0, hb]
        exact .fin _ rfl (.refl _)

      | fn rc a b p en =>
        simp -implicitDefEqProofs (maxSteps := 2000000) (disch := omega) [-getElem?_pos]
        refine (r1 _).then fun r hr => ?_
        obtain ⟨φ1, rfl⟩ := hr
        simp only [runD, valV, zW, encW, celW, encWs_eq]
        rw [ho1]
        simp -implicitDefEqProofs (maxSteps := 2000000) (disch := omega) [-getElem?_pos]
        refine (r2 _).then fun r hr => ?_
        obtain ⟨φ2, rfl⟩ := hr
        simp only [runD, valV, zW, encW, celW, encWs_eq]
        rw [ho2]
        simp -implicitDefEqProofs (maxSteps := 2000000) (disch := omega) [-getElem?_pos, h8]
        refine (kO _).then fun r hr => ?_
        subst hr
        simp -implicitDefEqProofs (maxSteps := 2000000) (disch := omega) [-getElem?_pos, h0, hb]
        exact .fin _ rfl (.refl _)

      | tup l =>
        simp -implicitDefEqProofs (maxSteps := 2000000) (disch := omega) [-getElem?_pos]
        refine (r1 _).then fun r hr => ?_
        obtain ⟨φ1, rfl⟩ := hr
        simp only [runD, valV, zW, encW, celW, encWs_eq]
        rw [ho1]
        simp -implicitDefEqProofs (maxSteps := 2000000) (disch := omega) [-getElem?_pos]
        refine (r2 _).then fun r hr => ?_
        obtain ⟨φ2, rfl⟩ := hr
        simp only [runD, valV, zW, encW, celW, encWs_eq]
        rw [ho2]
        simp -implicitDefEqProofs (maxSteps := 2000000) (disch := omega) [-getElem?_pos, h8]
        refine (kO _).then fun r hr => ?_
        subst hr
        simp -implicitDefEqProofs (maxSteps := 2000000) (disch := omega) [-getElem?_pos, h0, hb]
        exact .fin _ rfl (.refl _)

      | tag n w =>
        simp -implicitDefEqProofs (maxSteps := 2000000) (disch := omega) [-getElem?_pos]
        refine (r1 _).then fun r hr => ?_
        obtain ⟨φ1, rfl⟩ := hr
        simp only [runD, valV, zW, encW, celW, encWs_eq]
        rw [ho1]
        simp -implicitDefEqProofs (maxSteps := 2000000) (disch := omega) [-getElem?_pos]
        refine (r2 _).then fun r hr => ?_
        obtain ⟨φ2, rfl⟩ := hr
        simp only [runD, valV, zW, encW, celW, encWs_eq]
        rw [ho2]
        simp -implicitDefEqProofs (maxSteps := 2000000) (disch := omega) [-getElem?_pos, h8]
        refine (kO _).then fun r hr => ?_
        subst hr
        simp -implicitDefEqProofs (maxSteps := 2000000) (disch := omega) [-getElem?_pos, h0, hb]
        exact .fin _ rfl (.refl _)

      | ref k =>
        simp -implicitDefEqProofs (maxSteps := 2000000) (disch := omega) [-getElem?_pos]
        refine (r1 _).then fun r hr => ?_
        obtain ⟨φ1, rfl⟩ := hr
        simp only [runD, valV, zW, encW, celW, encWs_eq]
        rw [ho1]
        simp -implicitDefEqProofs (maxSteps := 2000000) (disch := omega) [-getElem?_pos]
        refine (r2 _).then fun r hr => ?_
        obtain ⟨φ2, rfl⟩ := hr
        simp only [runD, valV, zW, encW, celW, encWs_eq]
        rw [ho2]
        simp -implicitDefEqProofs (maxSteps := 2000000) (disch := omega) [-getElem?_pos, h8]
        refine (kO _).then fun r hr => ?_
        subst hr
        simp -implicitDefEqProofs (maxSteps := 2000000) (disch := omega) [-getElem?_pos, h0, hb]
        exact .fin _ rfl (.refl _)

end Go.Proofs.YtbifjffjibnjjaaDoor
